/- Lemmas for the proof of hostFollows.proved. -/
import Derived.Test.YthiddmncjafklaaGreatHostFollowsM3
import Derived.Test.YthiddmncjafklaaGreatProg
import Derived.WalkKit
import Derived.Handy
import Derived.WalkSpells
import Derived.WalkLawsBesides
import Derived.Lib.Hide
import Derived.Lib.BitFns
import Derived.Laws.BitsAllLaws
import Derived.Laws.AppendOwnNone
import Derived.Lib.SliceRun
import Derived.Deep.Draws
import Derived.Deep.QuietTactic
import Derived.ProofKit
import Derived.OpenShut
import Derived.ShutString
import Derived.ChangeOld
import Derived.Below
import Derived.Deep.Slices
import Derived.KernelRfl
import Derived.Lib.ConvBytes
import Derived.Laws.IdiomStrings
import Derived.Laws.Concat
import Derived.Lib.Zigzag
import Derived.Laws.BytesString
import Derived.Lib.Varint
import Derived.Lib.VarintBits
import Derived.Deep.RegionHeld3
import Derived.BigQuiet
import Derived.TacticsIn
import Derived.OrdersIn
import Derived.RangeFuncNested
import Derived.RangeFuncBound
import Derived.RangeFuncCalls
import Derived.Shelf.Abstract
import Derived.Shelf.RegionOpen
import Derived.OwnWalkIn
import Derived.TacticsInMore
import Derived.LoopNIn
import Derived.LoopIn
import Derived.BigRegionIn
namespace Go.Proofs.YthiddmncjafklaaGreat
set_option linter.all false
open Go.RowKit
def Els {α : Type} (w : World) (B : Nat) (a : Option Addr) (sz : Nat) (enc : α → List Value) (xs : List α) : Prop :=
 xs = [] ∨ ∃ b o, a = some ⟨b, o, none⟩ ∧ b < B ∧ ∀ i j v, (xs[i]?).bind (fun x => (enc x)[j]?) = some v → w.cell? ⟨b, o + (i * sz + j), none⟩ = some v
theorem Els.nil {α : Type} (w : World) (B : Nat) (a : Option Addr) (sz : Nat) (enc : α → List Value) : Els w B a sz enc [] := .inl rfl
theorem Els.get {α : Type} {w : World} {B : Nat} {a : Option Addr} {sz : Nat} {enc : α → List Value} {xs : List α} (h : Els w B a sz enc xs) (i : Nat) (hi : i < xs.length) :
 ∃ b o, a = some ⟨b, o, none⟩ ∧ b < B ∧ ∀ j v, (enc xs[i])[j]? = some v → w.cell? ⟨b, o + (i * sz + j), none⟩ = some v := by
 rcases h with rfl | ⟨b, o, ha, hb, hc⟩
 ·simp at hi
 ·exact ⟨b, o, ha, hb, fun j v hv => hc i j v (by simp [hi, hv])⟩
theorem Els.below {α : Type} {w w' : World} {B B' : Nat} {a : Option Addr} {sz : Nat} {enc : α → List Value} {xs : List α} (h : Els w B a sz enc xs) (hb : Below B' w w') (hB : B ≤ B') : Els w' B a sz enc xs := by
 rcases h with rfl | ⟨b, o, ha, hlt, hc⟩
 ·exact .inl rfl
 ·exact .inr ⟨b, o, ha, hlt, fun i j v hv => (hb.cell (p := ⟨b, _, none⟩) (Nat.lt_of_lt_of_le hlt hB)).trans (hc i j v hv)⟩
theorem Els.mono {α : Type} {w : World} {B B' : Nat} {a : Option Addr} {sz : Nat} {enc : α → List Value} {xs : List α} (h : Els w B a sz enc xs) (hB : B ≤ B') : Els w B' a sz enc xs := by
 rcases h with rfl | ⟨b, o, ha, hlt, hc⟩
 ·exact .inl rfl
 ·exact .inr ⟨b, o, ha, by omega, hc⟩
theorem below_lit (w : World) (o : Obj) : Below w.heap.size w (w.alloc o) := (Below.refl _ _).alloc (Nat.le_refl _) _
theorem _root_.Go.RowKit.Below.drewn {B : Nat} {a w : World} (h : Below B a w) (n : Nat) : Below B a (w.drewN n) := ⟨h.os, h.tape, h.output, h.size, h.block⟩
def e64 (n : Nat) : List Value := [.int .u64 n]
def e32 (n : Nat) : List Value := [.int .u32 n]
def ei64 (n : Int) : List Value := [.int .i64 n]
theorem Els.u64 {w : World} {B : Nat} {a : Option Addr} {xs : List Nat} (h : Els w B a 1 e64 xs) (i : Nat) (hi : i < xs.length) :
 ∃ b o, a = some ⟨b, o, none⟩ ∧ b < B ∧ w.cell? ⟨b, o + i, none⟩ = some (.int .u64 (xs[i] : Nat)) := by
 obtain ⟨b, o, ha, hb, hc⟩ := h.get i hi
 exact ⟨b, o, ha, hb, by simpa using hc 0 _ rfl⟩
theorem Els.i64 {w : World} {B : Nat} {a : Option Addr} {xs : List Int} (h : Els w B a 1 ei64 xs) (i : Nat) (hi : i < xs.length) :
 ∃ b o, a = some ⟨b, o, none⟩ ∧ b < B ∧ w.cell? ⟨b, o + i, none⟩ = some (.int .i64 xs[i]) := by
 obtain ⟨b, o, ha, hb, hc⟩ := h.get i hi
 exact ⟨b, o, ha, hb, by simpa using hc 0 _ rfl⟩
theorem Els.u32 {w : World} {B : Nat} {a : Option Addr} {xs : List Nat} (h : Els w B a 1 e32 xs) (i : Nat) (hi : i < xs.length) :
 ∃ b o, a = some ⟨b, o, none⟩ ∧ b < B ∧ w.cell? ⟨b, o + i, none⟩ = some (.int .u32 (xs[i] : Nat)) := by
 obtain ⟨b, o, ha, hb, hc⟩ := h.get i hi
 exact ⟨b, o, ha, hb, by simpa using hc 0 _ rfl⟩
theorem take_snoc' {α : Type} (xs : List α) (k : Nat) (h : k < xs.length) : xs.take (k + 1) = xs.take k ++ [xs[k]] := by
 rw [List.take_succ_eq_append_getElem h]
theorem flatMap_get {α β : Type} (enc : α → List β) (sz : Nat) : ∀ (xs : List α), (∀ x ∈ xs, (enc x).length = sz) → ∀ i j, j < sz → (xs.flatMap enc)[i * sz + j]? = (xs[i]?).bind fun x => (enc x)[j]? := by
 intro xs
 induction xs with
 | nil => intro _ i j _; simp
 | cons x xs ih =>
  intro h i j hj
  have hx := h x (by simp)
  cases i with
  | zero => simp [List.flatMap_cons, List.getElem?_append, hx, hj]
  | succ i =>
   have e : (i + 1) * sz + j = sz + (i * sz + j) := by rw [Nat.add_mul]; omega
   rw [List.flatMap_cons, List.getElem?_append_right (by omega), e, hx, Nat.add_sub_cancel_left, ih (fun y hy => h y (by simp [hy])) i j hj]
   simp
theorem flatMap_len {α β : Type} (enc : α → List β) (sz : Nat) (xs : List α) (h : ∀ x ∈ xs, (enc x).length = sz) : (xs.flatMap enc).length = xs.length * sz := by
 induction xs with
 | nil => simp
 | cons x xs ih => rw [List.flatMap_cons, List.length_append, h x (by simp), ih fun y hy => h y (by simp [hy]), List.length_cons, Nat.add_mul]; omega
theorem mul_div_lt {j sz n : Nat} (h : j < n * sz) : j / sz < n ∧ j / sz * sz + j % sz = j ∧ j % sz < sz := by
 have hs : 0 < sz := by
  rcases Nat.eq_zero_or_pos sz with rfl | h0
  ·simp at h
  ·exact h0
 exact ⟨(Nat.div_lt_iff_lt_mul hs).2 h, by rw [Nat.mul_comm]; exact Nat.div_add_mod j sz, Nat.mod_lt _ hs⟩
theorem Els.news {α : Type} {w : World} {B : Nat} {a : Option Addr} {sz : Nat} {enc : α → List Value} {xs : List α} (h : Els w B a sz enc xs) (he : ∀ x ∈ xs, (enc x).length = sz) :
 ∀ ad, a = some ad → ∀ j u, (xs.flatMap enc)[j]? = some u → w.cell? (ad.add j) = some u := by
 intro ad had j u hu
 rcases h with rfl | ⟨b, o, ha, hb, hc⟩
 ·simp at hu
 ·rw [ha] at had
  obtain rfl := Option.some.inj had
  have hj : j < xs.length * sz := by rw [← flatMap_len enc sz xs he]; exact (List.getElem?_eq_some_iff.1 hu).1
  obtain ⟨h1, h2, h3⟩ := mul_div_lt hj
  have := hc (j / sz) (j % sz) u (by rw [← flatMap_get enc sz xs he _ _ h3, h2]; exact hu)
  rw [h2] at this
  rw [Addr.add_lit]; exact this
theorem Els.take {α : Type} {w : World} {B : Nat} {a : Option Addr} {sz : Nat} {enc : α → List Value} {xs : List α} (h : Els w B a sz enc xs) (m : Nat) : Els w B a sz enc (xs.take m) := by
 rcases h with rfl | ⟨b, o, ha, hb, hc⟩
 ·exact .inl (by simp)
 ·refine .inr ⟨b, o, ha, hb, fun i j v hv => ?_⟩
  rw [List.getElem?_take] at hv
  split at hv
  ·exact hc i j v hv
  ·simp at hv
theorem Els.drop {α : Type} {w : World} {B b o : Nat} {sz : Nat} {enc : α → List Value} {xs : List α} (h : Els w B (some ⟨b, o, none⟩) sz enc xs) (m : Nat) : Els w B (some ⟨b, o + m * sz, none⟩) sz enc (xs.drop m) := by
 rcases h with rfl | ⟨b', o', ha, hb, hc⟩
 ·exact .inl (by simp)
 ·simp only [Option.some.injEq, Addr.mk.injEq, and_true] at ha
  obtain ⟨rfl, rfl⟩ := ha
  refine .inr ⟨b, o + m * sz, rfl, hb, fun i j v hv => ?_⟩
  rw [List.getElem?_drop] at hv
  have := hc (m + i) j v hv
  rwa [Nat.add_mul, show o + (m * sz + i * sz + j) = o + m * sz + (i * sz + j) from by omega] at this
theorem Els.drewn {α : Type} {w : World} {B : Nat} {a : Option Addr} {sz : Nat} {enc : α → List Value} {xs : List α} (h : Els w B a sz enc xs) (n : Nat) : Els (w.drewN n) B a sz enc xs := h
theorem Els.b0 {α : Type} {w : World} {B : Nat} {a : Option Addr} {sz : Nat} {enc : α → List Value} {xs : List α} (h : Els w B a sz enc xs) : xs = [] ∨ ∃ b o, a = some ⟨b, o, none⟩ ∧ b < B := by
 rcases h with h | ⟨b, o, h1, h2, _⟩
 ·exact .inl h
 ·exact .inr ⟨b, o, h1, h2⟩
def ElT (P : Program) (t e size bytes : Nat) (z : Value) : Prop :=
 P.underlying t = some (.slice e) ∧ 0 < size ∧ ∃ i, P.info? e = some i ∧ i.zero = some z ∧ i.size = size ∧ i.bytes = bytes ∧ z.cells.size = size
theorem ElT.mk' {P : Program} {t e size bytes : Nat} {z : Value} (h1 : P.underlying t = some (.slice e)) (h2 : (P.info? e).map (fun i => (i.zero, i.size, i.bytes)) = some (some z, size, bytes)) (h3 : z.cells.size = size) (h4 : 0 < size) : ElT P t e size bytes z := by
 obtain ⟨i, hi, hz0, hz1, hz2⟩ := info_parts h2
 exact ⟨h1, h4, i, hi, hz0, hz1, hz2, h3⟩
theorem wpApp {P : Program} (w : World) {ops : Array Oper} {rest : List Oper} {o : Oper} {a : Act} {Q : Exit → Act → World → Prop} (hgd : o.guard = none) (s x : Operand) (t : TypeId)
 (ho : o.op = .call { callee := .builtin .append, args := #[s, x], argTypes := #[t, t] })
 (base e size bytes : Nat) {z : Value} (hT : ElT P t e size bytes z)
 (v : Value) (n : Nat) (xs : List Value) (hs : a.eval s = v) (hown : w.ownsRow base e size v n xs)
 (ao : Option Addr) (m c : Nat) (news : List Value) (hx : a.eval x = .slice ao m c) (hl : news.length = m * size) (hnone : ao = none → m = 0 ∧ c = 0)
 (hnews : ∀ ad, ao = some ad → ∀ j u, news[j]? = some u → w.cell? (ad.add j) = some u) (h1 : ∀ u ∈ news, u.oneCell' = true)
 (h63 : n + m ≤ maxLen) (hbytes : (n + m) * bytes ≤ 140737488355328) (hbase : base ≤ w.heap.size)
 (h : ∀ v' w', w'.ownsRow base e size v' (n + m) (xs ++ news) → w.grownBy w' v.ownBlock → (v' = .slice none 0 0 ↔ v = .slice none 0 0 ∧ m = 0) → wpList P ops Q rest (a.put o.dst v') w') : wpList P ops Q (o :: rest) a w := by
 obtain ⟨ht, hsz, i, hi, hz, hsize, hby, hzs⟩ := hT
 cases ao with
 | some ad => exact wpList_append_own w hgd s x t ho base e i z size bytes ht hi hz hsize hby hzs hsz v n xs hs hown ad m c news hx hl (hnews ad rfl) h1 h63 hbytes hbase h
 | none =>
  obtain ⟨rfl, rfl⟩ := hnone rfl
  have hn : news = [] := List.eq_nil_of_length_eq_zero (by simpa using hl)
  subst hn
  exact wpList_append_own_none hgd s x t ho base e i size ht hi v n xs hs hown hx (by simpa using h v w (by simpa using hown) (World.grownBy.refl _ _) (by simp))
theorem madeCells_rep (z : Value) (n size : Nat) (h : z.cells.size = size) (_ : 0 < size) : (madeCells z.cells (n * size)).toList = (List.replicate n z.cells.toList).flatten := by
 have hl : ∀ x ∈ List.replicate n z.cells.toList, x.length = size := by
  intro x hx
  obtain ⟨_, rfl⟩ := List.mem_replicate.1 hx
  simpa using h
 apply List.ext_getElem?
 intro j
 have hflat : (List.replicate n z.cells.toList).flatten = (List.replicate n z.cells.toList).flatMap id := by rw [List.flatMap_id]
 rw [hflat]
 by_cases hj : j < n * size
 ·obtain ⟨h1, h2, h3⟩ := mul_div_lt hj
  have := flatMap_get (id : List Value → List Value) size (List.replicate n z.cells.toList) hl (j / size) (j % size) h3
  rw [h2] at this
  rw [this]
  simp only [madeCells]
  rw [List.getElem?_replicate, if_pos h1]
  simp only [Array.toList_map, Array.toList_range, List.getElem?_map, List.getElem?_range hj, Option.map_some, Option.bind_some, id]
  have hlt : j % size < z.cells.size := by omega
  rw [h]
  simp [hlt]
 ·have hlen := flatMap_len (id : List Value → List Value) size (List.replicate n z.cells.toList) hl
  rw [List.length_replicate] at hlen
  rw [List.getElem?_eq_none (by simp [madeCells]; omega), List.getElem?_eq_none (by omega)]
theorem wpMake {P : Program} (w : World) {ops : Array Oper} {rest : List Oper} {o : Oper} {a : Act} {Q : Exit → Act → World → Prop}
 (hg : o.guard = none) (l c : Operand) (t : TypeId) (hop : o.op = Op.makeSlice t l c)
 (base e size bytes : Nat) {z : Value} (hT : ElT P t e size bytes z) (n : Nat) (L C : Int) (hl : a.eval l = .int .i64 L) (hc : a.eval c = .int .i64 C) (hL : L = (n : Int)) (hC : C = (n : Int))
 (b2 : bytes * n ≤ 281474976710656) (b3 : n ≤ maxLen) (b4 : base ≤ w.heap.size)
 (hK : ∀ w', w'.ownsRow base e size (.slice (some ⟨w.heap.size, 0, none⟩) n n) n (List.replicate n z.cells.toList).flatten → w.grownBy w' none → wpList P ops Q rest (a.put o.dst (.slice (some ⟨w.heap.size, 0, none⟩) n n)) w') :
 wpList P ops Q (o :: rest) a w := by
 obtain ⟨ht, hsz, i, hi, hz, hsize, hby, hzs⟩ := hT
 refine wpList_make_full w hg l c t hop base e i z size ht hi hz hsize .i64 .i64 L C n hl hc hL hC (by rw [hby]; exact b2) b3 b4 fun w' h1 h2 => ?_
 rw [madeCells_rep z n size hzs hsz] at h1
 exact hK w' h1 h2
def I64 (n : Int) : Prop := -9223372036854775808 ≤ n ∧ n ≤ 9223372036854775807
theorem ret_u32 {a b : Int} (h : a = b) : Ending.returned (.int .u32 a) = .returned (.int .u32 b) := by rw [h]
theorem ret_u64 {a b : Int} (h : a = b) : Ending.returned (.int .u64 a) = .returned (.int .u64 b) := by rw [h]
theorem ret_i64 {a b : Int} (h : a = b) : Ending.returned (.int .i64 a) = .returned (.int .i64 b) := by rw [h]
theorem bytes_snoc (s : ByteArray) (k : Nat) (h : k < s.size) : s.data.toList.take (k + 1) = s.data.toList.take k ++ [s[k]] := by
 rw [List.take_succ_eq_append_getElem (by simpa using h)]; rfl
theorem take_all (s : ByteArray) : s.data.toList.take s.size = s.data.toList := List.take_of_length_le (Nat.le_of_eq Array.length_toList)
theorem u8_ofNat_toNat (x : Nat) (h : x < 256) : (UInt8.ofNat x).toNat = x := by simp; omega
theorem bs_size (l : List UInt8) : (⟨l.toArray⟩ : ByteArray).size = l.length := by show l.toArray.size = _; simp
theorem str_ne {t s : ByteArray} (h : ¬ t = s) : (t.toList == s.toList) = false := by
 rw [beq_eq_false_iff_ne]
 intro he
 apply h
 rw [ByteArray.toList_eq, ByteArray.toList_eq] at he
 cases t; cases s
 simp only [ByteArray.mk.injEq] at *
 exact Array.toList_inj.1 he
def ixOf {α : Type} (p : α → Bool) (xs : List α) : Int := match xs.findIdx? p with | none => -1 | some i => (i : Int)
theorem ixOf_hit {α : Type} (p : α → Bool) (xs : List α) (k : Nat) (hk : k < xs.length) (h : p xs[k] = true) (h0 : ∀ j (hj : j < xs.length), j < k → p xs[j] = false) : ixOf p xs = k := by
 have : xs.findIdx? p = some k := List.findIdx?_eq_some_iff_getElem.2 ⟨hk, h, fun j hj => by rw [h0 j (by omega) hj]; decide⟩
 rw [ixOf, this]
theorem ixOf_miss {α : Type} (p : α → Bool) (xs : List α) (h0 : ∀ j (hj : j < xs.length), p xs[j] = false) : ixOf p xs = -1 := by
 have : xs.findIdx? p = none := by
  rw [List.findIdx?_eq_none_iff]
  intro x hx
  obtain ⟨j, hj, rfl⟩ := List.mem_iff_getElem.1 hx
  exact h0 j hj
 rw [ixOf, this]
def slLen : Value → Nat | .slice _ n _ => n | _ => 0
theorem own_slice {w : World} {base e sz n : Nat} {v : Value} {xs : List Value} (h : w.ownsRow base e sz v n xs) : ∃ a c, v = .slice a n c := by
 rcases h.2 with ⟨rfl, rfl⟩ | ⟨g, cap, cur, rfl, _⟩
 ·exact ⟨none, 0, rfl⟩
 ·exact ⟨_, _, rfl⟩
theorem own_below {w w' : World} {base e sz n : Nat} {v : Value} {xs : List Value} (h : w.ownsRow base e sz v n xs) (hb : Below w.heap.size w w') : w'.ownsRow base e sz v n xs := by
 refine ⟨h.1, ?_⟩
 rcases h.2 with ⟨h1, h2⟩ | ⟨g, cap, cur, h1, h2, h3, h4⟩
 ·exact .inl ⟨h1, h2⟩
 ·exact .inr ⟨g, cap, cur, h1, h2, (hb.block g (Array.getElem?_eq_some_iff.1 h3).1).trans h3, h4⟩
theorem elT_u8 : ElT Tryz.prog 207 5 1 1 (.int .u8 0) := ElT.mk' Tryz.underlying207 (by kernel_rfl) rfl (by decide)
theorem elT_i64 : ElT Tryz.prog 22 3 1 8 (.int .i64 0) := ElT.mk' Tryz.underlying22 (by kernel_rfl) rfl (by decide)
end Go.Proofs.YthiddmncjafklaaGreat
namespace Go.Proofs.YthiddmncjafklaaGreat
set_option linter.all false
open Go.RowKit Go.ChangeShapes Go.WideShapes Go.ChangeAt
def Opens (P : Program) (T sz : Nat) (w : World) {α : Type} (enc : α → List Value) (ok : α → Prop) : Prop :=
 ∀ (H : Type) (eH : TypeId × Value → H) (fuel : Nat) (cs : List Value) (y : DataW H × List MemPlace), DataW.trod eH P w 0 (fun _ => true) true fuel T cs = some y → (∀ n ∈ y.1.weights P T, n ≤ reachBytes) → ∃ x : α, cs = enc x ∧ cs.length = sz ∧ ok x
theorem Opens.int {P : Program} {T : Nat} {w : World} {k : IntKind} (h : P.underlying T = some (.int k)) : Opens P T 1 w (fun n : Int => [.int k n]) (fun n => (Lit.int k n).wf = true) := by
 intro H eH fuel cs y hy _
 obtain ⟨n, rfl, _, hw⟩ := DataW.trod_int h hy
 exact ⟨n, rfl, rfl, hw⟩
theorem wf_i64' {n : Int} (h : (Lit.int .i64 n).wf = true) : -9223372036854775808 ≤ n ∧ n ≤ 9223372036854775807 := by
 simpa [Lit.wf, IntKind.min, IntKind.max, IntKind.signed, IntKind.bits] using h
theorem wf_u64' {n : Int} (h : (Lit.int .u64 n).wf = true) : 0 ≤ n ∧ n ≤ 18446744073709551615 := by
 simpa [Lit.wf, IntKind.min, IntKind.max, IntKind.signed, IntKind.bits] using h
theorem wf_u32' {n : Int} (h : (Lit.int .u32 n).wf = true) : 0 ≤ n ∧ n ≤ 4294967295 := by
 simpa [Lit.wf, IntKind.min, IntKind.max, IntKind.signed, IntKind.bits] using h
theorem Opens.i64 {P : Program} {T : Nat} {w : World} (h : P.underlying T = some (.int .i64)) : Opens P T 1 w ei64 (fun n => -9223372036854775808 ≤ n ∧ n ≤ 9223372036854775807) := by
 intro H eH fuel cs y hy _
 obtain ⟨n, rfl, _, hw⟩ := DataW.trod_int h hy
 exact ⟨n, rfl, rfl, wf_i64' hw⟩
theorem Opens.u64 {P : Program} {T : Nat} {w : World} (h : P.underlying T = some (.int .u64)) : Opens P T 1 w e64 (fun n => n < 18446744073709551616) := by
 intro H eH fuel cs y hy _
 obtain ⟨n, rfl, _, hw⟩ := DataW.trod_int h hy
 have := wf_u64' hw
 exact ⟨n.toNat, by simp only [e64]; congr 2; omega, rfl, by omega⟩
theorem Opens.u32 {P : Program} {T : Nat} {w : World} (h : P.underlying T = some (.int .u32)) : Opens P T 1 w e32 (fun n => n < 4294967296) := by
 intro H eH fuel cs y hy _
 obtain ⟨n, rfl, _, hw⟩ := DataW.trod_int h hy
 have := wf_u32' hw
 exact ⟨n.toNat, by simp only [e32]; congr 2; omega, rfl, by omega⟩
def eBool (b : Bool) : List Value := [.bool b]
theorem Opens.bool {P : Program} {T : Nat} {w : World} (h : P.underlying T = some .bool) : Opens P T 1 w eBool (fun _ => True) := by
 intro H eH fuel cs y hy _
 obtain ⟨b, rfl, _⟩ := DataW.trod_bool h hy
 exact ⟨b, rfl, rfl, trivial⟩
def eStr (s : ByteArray) : List Value := [.string s]
theorem Opens.str {P : Program} {T : Nat} {w : World} (h : P.underlying T = some .string) : Opens P T 1 w eStr (fun s => s.size ≤ 140737488351232) := by
 intro H eH fuel cs y hy hw
 obtain ⟨s, rfl, rfl, hs⟩ := DataW.trod_string h hy
 exact ⟨s, rfl, rfl, (by
  have h := hw s.data.toList.length (List.mem_singleton.2 rfl)
  have e : s.data.toList.length = s.size := Array.length_toList
  rw [e] at h
  exact h)⟩
structure SL (α : Type) where
 a : Option Addr
 c : Nat
 xs : List α
def SL.val {α : Type} (s : SL α) : Value := .slice s.a s.xs.length s.c
def SL.enc {α : Type} (s : SL α) : List Value := [s.val]
structure SLok {α : Type} (w : World) (B : Nat) (sz bts : Nat) (enc : α → List Value) (ok : α → Prop) (s : SL α) : Prop where
 els : Els w B s.a sz enc s.xs
 each : ∀ x ∈ s.xs, ok x ∧ (enc x).length = sz
 cap : s.xs.length ≤ s.c
 max : s.c ≤ maxLen
 reach : s.c * bts ≤ 140737488351232
 nil : s.a = none → s.xs.length = 0 ∧ s.c = 0
theorem SLok.below {α : Type} {w w' : World} {B B' sz bts : Nat} {enc : α → List Value} {ok : α → Prop} {s : SL α} (h : SLok w B sz bts enc ok s) (hb : Below B' w w') (hB : B ≤ B') : SLok w' B sz bts enc ok s :=
 ⟨h.els.below hb hB, h.each, h.cap, h.max, h.reach, h.nil⟩
theorem Opens.slice {P : Program} {T E sz bts : Nat} {w : World} {α : Type} {enc : α → List Value} {ok : α → Prop} (hT : P.underlying T = some (.slice E)) (hc : P.cellsOf E = sz) (hsz : 0 < sz) (hby : P.bytesOf E = bts) (hE : Opens P E sz w enc ok) :
 Opens P T 1 w (SL.enc (α := α)) (SLok w w.heap.size sz bts enc ok) := by
 intro H eH fuel cs y hy hw
 rcases Deep.open_slice hT hy with ⟨rfl, _⟩ | ⟨a, len, cap, m, n, D, Pl, rfl, _, hl, hm, hmm, hy2, hx⟩
 ·exact ⟨⟨none, 0, []⟩, rfl, rfl, ⟨.inl rfl, by simp, Nat.le_refl _, Nat.zero_le _, by simp, fun _ => ⟨rfl, rfl⟩⟩⟩
 ·simp only [if_true] at hmm
  subst hmm
  subst hy2
  have hreach : m * bts ≤ 140737488351232 := by
   have h := hw ((len + (m - len)) * P.bytesOf E) (by simp [DataW.weights, hT])
   rw [show len + (m - len) = m from by omega, hby] at h
   exact h
  have hwe : ∀ i, i < len → ∀ k ∈ (D i).weights P E, k ≤ reachBytes := by
   intro i hi k hk
   refine hw k ?_
   simp only [DataW.weights, hT, List.mem_cons, List.mem_append]
   refine .inr (.inl ?_)
   have key : ∀ (l : List (DataW H)), D i ∈ l → k ∈ DataW.weightsAll P E l := by
    intro l
    induction l with
    | nil => intro h; simp at h
    | cons d l ih =>
     intro h
     simp only [DataW.weightsAll, List.mem_append]
     rcases List.mem_cons.1 h with rfl | h
     ·exact .inl hk
     ·exact .inr (ih h)
   exact key _ (List.mem_map.2 ⟨i, List.mem_range.2 hi, rfl⟩)
  have hx2 : ∀ i, i < len → ∃ x : α, ok x ∧ (enc x).length = sz ∧ ∀ j, j < sz → w.cell? ((a.add (i * sz)).add j) = (enc x)[j]? := by
   intro i hi
   obtain ⟨cs', h1, h2⟩ := hx i (by omega)
   obtain ⟨x, rfl, hlen, hok⟩ := hE H eH n cs' _ h2 (hwe i hi)
   obtain ⟨_, _, h3⟩ := World.cells?_some h1
   rw [hc] at h3
   exact ⟨x, hok, hlen, h3⟩
  by_cases h0 : len = 0
  ·subst h0
   exact ⟨⟨some a, m, []⟩, rfl, rfl, ⟨.inl rfl, by simp, Nat.zero_le _, hm, hreach, fun h => by simp at h⟩⟩
  ·obtain ⟨x0, _⟩ := hx2 0 (by omega)
   have : Inhabited α := ⟨x0⟩
   obtain ⟨f, hf⟩ := Deep.choose_lt (p := fun i x => ok x ∧ (enc x).length = sz ∧ ∀ j, j < sz → w.cell? ((a.add (i * sz)).add j) = (enc x)[j]?) hx2
   have hlen : ((List.range len).map f).length = len := by simp
   refine ⟨⟨some a, m, (List.range len).map f⟩, by simp [SL.enc, SL.val], rfl, ⟨?_, ?_, by simpa using hl, hm, hreach, fun h => by simp at h⟩⟩
   ·obtain ⟨_, hl0, hc0⟩ := hf 0 (by omega)
    have hcell := hc0 0 hsz
    rw [List.getElem?_eq_getElem (by omega)] at hcell
    simp only [Nat.zero_mul] at hcell
    have hadd0 : ((a.add 0).add 0) = a := by simp [Addr.add]
    rw [hadd0] at hcell
    have hsp := World.cell?_spot hcell
    have hlt := World.block_lt_of_cell? w a hcell
    obtain ⟨b, o, sp⟩ := a
    simp only at hsp
    subst hsp
    refine .inr ⟨b, o, rfl, hlt, fun i j v hv => ?_⟩
    cases hxi : ((List.range len).map f)[i]? with
    | none => rw [hxi] at hv; simp at hv
    | some x =>
     rw [hxi] at hv
     have hi : i < len := by have := (List.getElem?_eq_some_iff.1 hxi).1; simpa using this
     have hfx : f i = x := by simpa [hi] using hxi
     obtain ⟨_, hl1, hc1⟩ := hf i hi
     have hj : j < sz := by
      have hv' : (enc x)[j]? = some v := by simpa using hv
      have := (List.getElem?_eq_some_iff.1 hv').1
      rw [← hfx, hl1] at this; exact this
     have := hc1 j hj
     rw [hfx] at this
     rw [Deep.add_add, Addr.add_lit] at this
     rw [this]; simpa using hv
   ·intro x hx
    simp only [List.mem_map, List.mem_range] at hx
    obtain ⟨i, hi, rfl⟩ := hx
    obtain ⟨h1, h2, _⟩ := hf i hi
    exact ⟨h1, h2⟩
theorem Opens.map {P : Program} {T sz : Nat} {w : World} {α β : Type} {enc : α → List Value} {ok : α → Prop} {enc' : β → List Value} {ok' : β → Prop} (h : Opens P T sz w enc ok) (f : α → β) (hf : ∀ x, enc' (f x) = enc x) (hok : ∀ x, ok x → ok' (f x)) : Opens P T sz w enc' ok' := by
 intro H eH fuel cs y hy hw
 obtain ⟨x, rfl, hl, ho⟩ := h H eH fuel cs y hy hw
 exact ⟨f x, (hf x).symm, hl, hok x ho⟩
def OpensF (P : Program) (w : World) (fs : List Field) (o sz : Nat) {α : Type} (enc : α → List Value) (ok : α → Prop) : Prop :=
 ∀ (H : Type) (eH : TypeId × Value → H) (fuel : Nat) (cs : List Value), cs.length = o + sz →
  (∀ f ∈ fs, ∃ y, DataW.trod eH P w 0 (fun _ => true) true fuel f.type ((cs.drop f.offset).take (P.cellsOf f.type)) = some y ∧ ∀ n ∈ y.1.weights P f.type, n ≤ reachBytes) → ∃ x : α, cs.drop o = enc x ∧ ok x
theorem OpensF.nil {P : Program} {w : World} {o : Nat} : OpensF P w [] o 0 (fun _ : Unit => []) (fun _ => True) := by
 intro H eH fuel cs hl _
 exact ⟨(), List.drop_eq_nil_of_le (by omega), trivial⟩
theorem OpensF.cons {P : Program} {w : World} {f : Field} {fs : List Field} {o n sz : Nat} {α β : Type} {enc : α → List Value} {ok : α → Prop} {enc' : β → List Value} {ok' : β → Prop}
 (ho : f.offset = o) (hn : P.cellsOf f.type = n) (h : Opens P f.type n w enc ok) (h' : OpensF P w fs (o + n) sz enc' ok') :
 OpensF P w (f :: fs) o (n + sz) (fun x : α × β => enc x.1 ++ enc' x.2) (fun x => ok x.1 ∧ ok' x.2) := by
 intro H eH fuel cs hl hall
 obtain ⟨y, hy, hw⟩ := hall f (by simp)
 rw [ho, hn] at hy
 obtain ⟨x, hx, _, hok⟩ := h H eH fuel _ y hy hw
 obtain ⟨x', hx', hok'⟩ := h' H eH fuel cs (by omega) (fun g hg => hall g (by simp [hg]))
 refine ⟨(x, x'), ?_, hok, hok'⟩
 show cs.drop o = enc x ++ enc' x'
 rw [← hx, ← hx', ← List.drop_drop, List.take_append_drop]
theorem Opens.struct {P : Program} {T sz : Nat} {w : World} {fs : Array Field} {α : Type} {enc : α → List Value} {ok : α → Prop} (hT : P.underlying T = some (.struct fs)) (hc : P.cellsOf T = sz) (h : OpensF P w fs.toList 0 sz enc ok) :
 Opens P T sz w enc ok := by
 intro H eH fuel cs y hy hw
 obtain ⟨xs, n, _, rfl, hl, hlen, hfs⟩ := DataW.trod_struct hT hy
 obtain ⟨x, hx, hok⟩ := h H eH n cs (by omega) (fun f hf => by
  obtain ⟨i, hi, he⟩ := List.getElem_of_mem hf
  have hi' : i < fs.size := by simpa using hi
  have hfi : fs[i]? = some f := by rw [Array.getElem?_eq_getElem hi']; simpa using he
  have := hfs i f hfi
  have hx : xs[i]? = some (xs[i]'(by omega)) := List.getElem?_eq_getElem (by omega)
  rw [hx] at this
  refine ⟨_, this, fun k hk => hw k ?_⟩
  simp only [DataW.weights, hT]
  refine DataW.weights_mem_each (j := i) (t := f.type) ?_ ?_ k hk
  ·rw [List.getElem?_map, Array.getElem?_toList, hfi]; rfl
  ·rw [List.getElem?_map, hx]; rfl)
 exact ⟨x, by simpa using hx, by omega, hok⟩
theorem Opens.arg {P : Program} {T sz : Nat} {w : World} {α : Type} {enc : α → List Value} {ok : α → Prop} (h : Opens P T sz w enc ok) {H : Type} {eH : TypeId × Value → H} {v : Value} {d : DataW H} {p : List MemPlace}
 (hT : DataW.Trod eH P w 0 (fun _ => true) true T v d p) {ts : List TypeId} {ds : List (DataW H)} (hz : (DataW.weightsEach P ts ds).all (· ≤ reachBytes) = true) (j : Nat) (h1 : ts[j]? = some T) (h2 : ds[j]? = some d) : ∃ x : α, v.cells.toList = enc x ∧ ok x := by
 obtain ⟨fuel, hf⟩ := hT
 obtain ⟨x, h1, _, h2⟩ := h H eH fuel _ _ hf (fun n hn => by
  have := List.all_eq_true.1 hz n (DataW.weights_mem_each h1 h2 n hn)
  simpa using this)
 exact ⟨x, h1, h2⟩
theorem arg_struct {P : Program} {w : World} {base t : Nat} {v : Value} {cs : List Value} {fs : Array Field} (h : Value.okWide P w .any base t v) (hs : P.underlying t = some (.struct fs)) (hc : v.cells.toList = cs) : v = .agg cs.toArray := by
 simp only [Value.okWide, hs] at h
 obtain ⟨cs', rfl, _⟩ := h
 subst hc
 simp [Value.cells]
end Go.Proofs.YthiddmncjafklaaGreat
namespace Go.Proofs.YthiddmncjafklaaGreat
set_option linter.all false
open Go.RowKit
theorem rel_c {w : World} {F : Nat → Prop} {b : Nat} : ∀ (ps : List PV) (vs : List Value) (o : Nat), vs.length = ps.length → (∀ (j : Nat) v, vs[j]? = some v → w.cell? ⟨b, o + j, none⟩ = some v) → (∀ (j : Nat) p u, ps[j]? = some p → vs[j]? = some u → RelP w F p u) → RelC w F b o ps
 | [], _, _, _, _, _ => by simp only [RelC]
 | p :: ps, [], _, h, _, _ => by simp at h
 | p :: ps, v :: vs, o, h, hc, hr => by
  simp only [RelC]
  refine ⟨⟨v, by have := hc 0 v rfl; simpa using this, hr 0 p v rfl rfl⟩, rel_c ps vs (o + 1) (by simpa using h) (fun j u hu => ?_) (fun j q u h1 h2 => hr (j + 1) q u h1 h2)⟩
  have := hc (j + 1) u hu
  rwa [show o + (j + 1) = o + 1 + j from by omega] at this
theorem rel_e {α : Type} {w : World} {F : Nat → Prop} {b sz : Nat} {enc : α → List Value} {pv : α → List PV} : ∀ (xs : List α) (o : Nat), (∀ i j v, (xs[i]?).bind (fun x => (enc x)[j]?) = some v → w.cell? ⟨b, o + (i * sz + j), none⟩ = some v) →
 (∀ x ∈ xs, (pv x).length = sz ∧ (enc x).length = sz ∧ ∀ (j : Nat) p u, (pv x)[j]? = some p → (enc x)[j]? = some u → RelP w F p u) → RelE w F b sz o (xs.map pv)
 | [], _, _, _ => by simp only [List.map_nil, RelE]
 | x :: xs, o, hc, hp => by
  simp only [List.map_cons, RelE]
  obtain ⟨h1, h2, h3⟩ := hp x (by simp)
  refine ⟨h1, rel_c (pv x) (enc x) o (by rw [h1, h2]) (fun j v hv => ?_) h3, rel_e xs (o + sz) (fun i j v hv => ?_) fun y hy => hp y (List.mem_cons_of_mem _ hy)⟩
  ·have := hc 0 j v (by simpa using hv); simpa using this
  ·have := hc (i + 1) j v (by simpa using hv)
   rwa [show o + ((i + 1) * sz + j) = o + sz + (i * sz + j) from by rw [Nat.succ_mul]; omega] at this
theorem rel_sl {α : Type} {w : World} {B sz bts : Nat} {enc : α → List Value} {ok : α → Prop} {s : SL α} {pv : α → List PV} (h : SLok w B sz bts enc ok s)
 (hp : ∀ x ∈ s.xs, ok x → (pv x).length = sz ∧ ∀ (j : Nat) p u, (pv x)[j]? = some p → (enc x)[j]? = some u → RelP w (· < B) p u) : RelP w (· < B) (.sl sz (s.xs.map pv)) s.val := by
 simp only [RelP]
 refine ⟨s.a, s.c, by simp [SL.val], by simpa using h.cap, h.max, ?_⟩
 rcases h.els with h1 | ⟨b, o, ha, hb, hc⟩
 ·exact .inl (by rw [h1]; rfl)
 ·refine .inr ⟨b, o, ha, hb, rel_e s.xs o hc fun x hx => ?_⟩
  obtain ⟨h1, h2⟩ := h.each x hx
  obtain ⟨h3, h4⟩ := hp x hx h1
  exact ⟨h3, h2, h4⟩
theorem spec_law {P : Program} {f : FuncId} {args : List AV} (S : Spec P f args [] (B true) []) {w : World} {vs : List Value} (hr : RelL (· < 0) w (· < w.heap.size) (fun _ => none) args vs) :
 Calls P f vs.toArray w fun e w' => e = .returned (.bool true) ∧ Below w.heap.size w w' := by
 have M : MemOk w (inB fun _ => none) (· < ([] : List Chunk).length) (· < w.heap.size) (fun _ => none) (nth []) w :=
  ⟨Nat.le_refl _, rfl, rfl, rfl, fun _ _ _ => rfl, fun _ h => h, fun _ _ h => by simp at h, fun _ h => absurd rfl h, fun _ _ _ _ _ h => by simp at h, fun _ _ _ h => by simp at h⟩
 refine (S.2.2 w (· < w.heap.size) (fun _ => none) vs M hr).mono ?_
 rintro e w' ⟨v, F', β', rfl, M', hv, _⟩
 refine ⟨by rw [relB.1 hv], M'.os, M'.tape, M'.output, M'.size, fun b hb => M'.frame b hb ?_⟩
 rintro ⟨i, bd, h, _⟩
 simp at h
theorem relL_nil {U F : Nat → Prop} {β : Nat → Option Bind} {w : World} : RelL U w F β [] [] := by simp only [RelL]
theorem relL_cons {U F : Nat → Prop} {β : Nat → Option Bind} {w : World} {x : AV} {xs : List AV} {v : Value} {vs : List Value} (h1 : RelA U w F β x v) (h2 : RelL U w F β xs vs) : RelL U w F β (x :: xs) (v :: vs) := by
 simp only [RelL]; exact ⟨v, vs, rfl, h1, h2⟩
theorem relA_agg {U F : Nat → Prop} {β : Nat → Option Bind} {w : World} {xs : List AV} {vs : List Value} (h : RelL U w F β xs vs) (h1 : ∀ x ∈ vs, x.oneCell' = true) : RelA U w F β (.agg xs) (.agg vs.toArray) := by
 simp only [RelA]; exact ⟨vs.toArray, rfl, by simpa using h, by simpa using h1⟩
theorem relA_c {U F : Nat → Prop} {β : Nat → Option Bind} {w : World} {p : PV} {v : Value} (h : RelP w F p v) : RelA U w F β (.c p) v := by simp only [RelA]; exact h
theorem relP_v {F : Nat → Prop} {w : World} {v : Value} (h : v.oneCell' = true) : RelP w F (.v v) v := by simp [RelP, h]
end Go.Proofs.YthiddmncjafklaaGreat
namespace Go.Proofs.YthiddmncjafklaaGreat
set_option linter.all false
open Go.RowKit
theorem retA {P : Program} {rs : List ResultVar} {r : AV} {s : St} {φ : Prop} {xs : List AV} (h : resAV P (look s.t) (lookC s.h) rs = some (φ, xs)) (hw : Wk (cv [] (lookC s.h) (oneV xs)) r) (hφ : φ := by repeat' (first | exact trivial | exact rfl | refine ⟨?_, ?_⟩)) : RetG P 0 rs r [] s := ret0 h hφ hw
theorem wkc {x y : AV} (h : Wk x y := by first | exact Wk.refl _ | exact Wk.nil _ | (refine Wk.tup ?_; repeat' (first | exact trivial | exact Wk.refl _ | exact Wk.nil _ | refine ⟨?_, ?_⟩ | (refine Wk.agg ?_)))) : Wk x y := h
theorem obA {a b : Prop} (h : b) (ha : a := by first | omega | decide | (simp; done) | (simp; omega) | (intro hh; refine ⟨hh, ?_⟩; omega) | (simp [mhas, mfind]; done) | (simp +contextual; done) | fail) : a ∧ b := ⟨ha, h⟩
theorem tdv {a b : Int} (h : 0 ≤ a) : a.tdiv b = a / b := Int.tdiv_eq_ediv_of_nonneg h
theorem tmd {a b : Int} (h : 0 ≤ a) : a.tmod b = a % b := Int.tmod_eq_emod_of_nonneg h
theorem xa {p : Prop} [Decidable p] : (decide p = true) = p := decide_eq_true_eq
theorem xb {p : Prop} [Decidable p] : decide p = false ↔ ¬ p := decide_eq_false_iff_not
theorem xc {b : Bool} : ((!b) = true) ↔ b = false := by cases b <;> simp
theorem xd {b : Bool} : ((!b) = false) ↔ b = true := by cases b <;> simp
theorem xe {a b : Bool} : (a || b) = true ↔ a = true ∨ b = true := by cases a <;> simp
theorem xf {a b : Bool} : (a && b) = true ↔ a = true ∧ b = true := by cases a <;> simp
theorem xg {a b : Bool} : (a || b) = false ↔ a = false ∧ b = false := by cases a <;> simp
theorem xh {a b : Bool} : (a && b) = false ↔ a = false ∨ b = false := by cases a <;> simp
theorem xi {a b : Int} : ¬ a < b ↔ b ≤ a := Int.not_lt
theorem xj {a b : Int} : ¬ a ≤ b ↔ b < a := Int.not_le
theorem xk {p q : Prop} : ¬ (p ∧ q) ↔ (p → ¬ q) := not_and
theorem xl {p q : Prop} : ¬ (p ∨ q) ↔ ¬ p ∧ ¬ q := not_or
attribute [push_cast] clearAV copyAV partOf invA awp awpL opW opWF opX opG ex3 fz fzL inZ fzH deadsOf rowsA rowsL fzEff mapAV kty keyA intsA ex2 ex1 loadAV cellsAt valOf addO fieldAddrAV partAV fieldAV indexAddrAV indexAV bound sliceAV convAV lenAV minInts maxInts isPtr pickAV bsel_false bsel_true binAV intBin strBin eqAV eqCells eqVal nilP unAV slOf cellsOf toPV toPVs splice fillA plFs buildAV chunks sameO makeAV sliceLitAV storeAV rowOf appAV dstOk dstV gcond strip stripsT St.app putO look_n look_c lookC_n lookC_c getO ofV seqK blkK scoK nilCmp xorB opK drK lpK_n lpK_e lpK_r joinK_n joinK_e joinK_r argsT hsT RetQ I B S Op.operands Call.operands cv cvL ix ix.go cellP cvC up upL upC upsL upI drawL touch touch2 cellIds idsA idsL memN onlyC wk_self bool_imp cvT cvH hsW resAV oneV WkL WkC List.map_cons List.map_nil Option.toArray List.getElem?_cons_zero List.getElem?_cons_succ List.getElem?_nil List.drop_succ_cons List.drop_zero List.drop_nil List.take_succ_cons List.take_zero List.take_nil List.append_nil List.nil_append List.cons_append List.getElem?_toArray List.length_cons List.length_nil List.all_cons List.all_nil Bool.and_true Bool.true_and Bool.and_self Bool.and_false Bool.false_and Bool.or_false Bool.or_true Bool.true_or Bool.false_or Option.map_some Option.map_none Option.bind_some Option.bind_none if_true if_false true_and and_true List.getD_cons_zero List.getD_cons_succ Bool.not_true Bool.not_false Bool.false_eq_true not_false_eq_true not_true_eq_false Option.isSome_some List.isEmpty_cons Nat.add_zero Nat.zero_add List.length_map List.replicate_succ List.replicate_zero Nat.sub_zero and_self implies_true forall_const Value.oneCell' imp_self Int.toNat_zero Int.toNat_one Int.toNat_natCast true_or or_true or_false false_or Array.toList_append List.size_toArray decide_true decide_false Nat.ble_eq Nat.beq_eq Bool.and_eq_true Int.natCast_add Int.cast_ofNat_Int Int.natCast_zero Int.natCast_one decide_eq_true_eq decide_eq_false_iff_not Bool.not_eq_true' Bool.not_eq_false' Bool.or_eq_true Bool.or_eq_false_iff Bool.and_eq_false_iff beq_self_eq_true
theorem xtI : True := True.intro
structure XHid (p : Prop) : Prop where
 x : p
theorem xst {G G' : Prop} (k : G') (h : XHid G' → G := by intro h0; first | ((try simp (etaStruct := .none) only [push_cast, DrawG, Int.cast_ofNat_Int, seval]); (try simp (disch := omega) only [wrap_in, wk_self, tdv, tmd]); (repeat with_reducible refine obA ?_); exact h0.x) | (have _h : XHid True := h0; (try simp (etaStruct := .none) only [push_cast, DrawG, Int.cast_ofNat_Int, seval]); (try simp (disch := omega) only [wrap_in, wk_self, tdv, tmd]); (repeat with_reducible refine obA ?_))) : G := h ⟨k⟩
theorem xsu {G G' : Prop} (k : G') (h : XHid G' → G := by intro h0; first | ((try simp (disch := omega) only [wrap_in, wk_self, tdv, tmd]); (repeat with_reducible refine obA ?_); exact h0.x) | (have _h : XHid True := h0; (try simp (disch := omega) only [wrap_in, wk_self, tdv, tmd]); (repeat with_reducible refine obA ?_))) : G := h ⟨k⟩
theorem xhh {p q : Prop} (x : p) (h : p → q := by intro h0; (simp only [xa, xb, xc, xd, xe, xf, xg, xh, xi, xj, Bool.not_true, Bool.not_false, xk, xl] at h0); exact h0) : q := h x
theorem xrz {P : Program} {rs : List ResultVar} {r : AV} {s : St} {φ : Prop} {xs : List AV} (h : resAV P (look s.t) (lookC s.h) rs = some (φ, xs)) (hw : Wk (cv [] (lookC s.h) (oneV xs)) r := by first | (refine Wk.of ?_; (try simp (etaStruct := .none) only [push_cast, DrawG, Int.cast_ofNat_Int, seval]); first | done | (simp [*]; done) | (simp_all; done) | fail) | ((try simp (etaStruct := .none) only [push_cast, DrawG, Int.cast_ofNat_Int, seval]); (try simp [*]); (try exact wkc))) (hφ : φ := by repeat' (first | exact trivial | exact rfl | refine ⟨?_, ?_⟩)) : RetG P 0 rs r [] s := ret0 h hφ hw
section
variable {P : Program} {f : FuncId} {args args' : List AV} {h : Nat → Chunk} {m : Nat} {K : Eff → Prop} {r : AV} {c : Bool} {φ : Prop}
theorem caP (S : Spec P f args' [] r []) (k : K ⟨up [] m r, [], 0⟩) (hw : WkL (cvL [] noC args) args' := by exact WkL.refl _) : CallG P f args h m K := callP S hw k
theorem gcP (S : c = true → Spec P f args' [] r []) (k : K ⟨.opt c (up [] m r), [], 0⟩) (hw : WkL (cvL [] noC args) args' := by exact WkL.refl _) (hφ : c = true → φ := by intro hc; (try simp (etaStruct := .none) only [push_cast, DrawG, Int.cast_ofNat_Int, seval]); (try simp_all)) : GCall P c f args φ h m K := gcallP S hw hφ k
theorem caM {hs hs' : List Chunk} (ids : List Nat) (S : Spec P f args' hs r hs') (k : K ⟨up ids m r, upsL ids m 0 hs', hs'.length - ids.length⟩) (hw : WkL (cvL ids noC args) args' := by exact WkL.refl _) (hh : hs = ids.map (fun id => cvC ids noC (h id)) := by rfl) (hnd : ids.Nodup := by decide) (hal : ∀ id ∈ ids, h id ≠ .dead := by simp [lookC_c]) : CallG P f args h m K := callM ids S hw hh hnd hal k
end
end Go.Proofs.YthiddmncjafklaaGreat
namespace Go.Proofs.YthiddmncjafklaaGreat
set_option linter.all false
theorem mix : Tryz.prog.follows .mixedOrders = true := by kernel_rfl
theorem it3 : intTy Tryz.prog 3 = true := by kernel_rfl
theorem ty3 : ty Tryz.prog 3 = some ⟨.int .i64, false, 1, 8, [.int .i64 0]⟩ := by kernel_rfl
theorem ty4 : ty Tryz.prog 4 = some ⟨.bool, false, 1, 1, [.bool false]⟩ := by kernel_rfl
theorem ty5 : ty Tryz.prog 5 = some ⟨.int .u8, false, 1, 1, [.int .u8 0]⟩ := by kernel_rfl
theorem ty9 : ty Tryz.prog 9 = some ⟨.str, false, 1, 16, [.string ByteArray.empty]⟩ := by kernel_rfl
theorem ty20 : ty Tryz.prog 20 = some ⟨.ifc, false, 1, 16, [.nilIface]⟩ := by kernel_rfl
theorem ty22 : ty Tryz.prog 22 = some ⟨.sl 3, false, 1, 24, [.slice none 0 0]⟩ := by kernel_rfl
theorem ty24 : ty Tryz.prog 24 = some ⟨.st [some (0, 1, false), some (1, 1, false), some (2, 1, false)], true, 3, 40, [.int .i64 0, .int .i64 0, .slice none 0 0]⟩ := by kernel_rfl
theorem ty25 : ty Tryz.prog 25 = some ⟨.sl 85, false, 1, 24, [.slice none 0 0]⟩ := by kernel_rfl
theorem ty26 : ty Tryz.prog 26 = some ⟨.sl 89, false, 1, 24, [.slice none 0 0]⟩ := by kernel_rfl
theorem ty28 : ty Tryz.prog 28 = some ⟨.st [some (0, 3, true), some (3, 1, false), some (4, 1, false), some (5, 1, false), some (6, 1, false), some (7, 1, false), some (8, 1, false)], true, 9, 152, [.int .i64 0, .int .i64 0, .slice none 0 0, .slice none 0 0, .slice none 0 0, .slice none 0 0, .slice none 0 0, .int .i64 0, .int .i64 0]⟩ := by kernel_rfl
theorem ty29 : ty Tryz.prog 29 = some ⟨.sl 96, false, 1, 24, [.slice none 0 0]⟩ := by kernel_rfl
theorem ty30 : ty Tryz.prog 30 = some ⟨.sl 4, false, 1, 24, [.slice none 0 0]⟩ := by kernel_rfl
theorem ty32 : ty Tryz.prog 32 = some ⟨.st [some (0, 1, false), some (1, 1, false), some (2, 1, false)], true, 3, 72, [.slice none 0 0, .slice none 0 0, .slice none 0 0]⟩ := by kernel_rfl
theorem it33 : intTy Tryz.prog 33 = true := by kernel_rfl
theorem ty33 : ty Tryz.prog 33 = some ⟨.int .i64, false, 1, 8, [.int .i64 0]⟩ := by kernel_rfl
theorem ty39 : ty Tryz.prog 39 = some ⟨.sl 29, false, 1, 24, [.slice none 0 0]⟩ := by kernel_rfl
theorem ty40 : ty Tryz.prog 40 = some ⟨.sl 44, false, 1, 24, [.slice none 0 0]⟩ := by kernel_rfl
theorem ty44 : ty Tryz.prog 44 = some ⟨.int .u64, false, 1, 8, [.int .u64 0]⟩ := by kernel_rfl
theorem ty47 : ty Tryz.prog 47 = some ⟨.st [some (0, 9, true), some (9, 1, false)], true, 10, 176, [.int .i64 0, .int .i64 0, .slice none 0 0, .slice none 0 0, .slice none 0 0, .slice none 0 0, .slice none 0 0, .int .i64 0, .int .i64 0, .slice none 0 0]⟩ := by kernel_rfl
theorem ty56 : ty Tryz.prog 56 = some ⟨.sl 9, false, 1, 24, [.slice none 0 0]⟩ := by kernel_rfl
theorem ty63 : ty Tryz.prog 63 = some ⟨.sl 124, false, 1, 24, [.slice none 0 0]⟩ := by kernel_rfl
theorem ty64 : ty Tryz.prog 64 = some ⟨.sl 126, false, 1, 24, [.slice none 0 0]⟩ := by kernel_rfl
theorem ty65 : ty Tryz.prog 65 = some ⟨.sl 119, false, 1, 24, [.slice none 0 0]⟩ := by kernel_rfl
theorem ty85 : ty Tryz.prog 85 = some ⟨.st [some (0, 1, false), some (1, 1, false)], true, 2, 16, [.int .i64 0, .int .i64 0]⟩ := by kernel_rfl
theorem ty89 : ty Tryz.prog 89 = some ⟨.st [some (0, 1, false), some (1, 1, false), some (2, 1, false), some (3, 2, true), some (5, 1, false), some (6, 1, false)], true, 7, 56, [.int .i64 0, .int .i64 0, .int .i64 0, .int .i64 0, .int .i64 0, .int .i64 0, .int .i64 0]⟩ := by kernel_rfl
theorem ty96 : ty Tryz.prog 96 = some ⟨.st [some (0, 1, false), some (1, 1, false), some (2, 1, false), some (3, 2, true), some (5, 1, false)], true, 6, 48, [.int .i64 0, .int .i64 0, .int .i64 0, .int .i64 0, .int .i64 0, .int .i64 0]⟩ := by kernel_rfl
theorem ty99 : ty Tryz.prog 99 = some ⟨.other, false, 1, 8, [.nilFunc]⟩ := by kernel_rfl
theorem ty105 : ty Tryz.prog 105 = some ⟨.st [some (0, 1, false), some (1, 1, false), some (2, 1, false), some (3, 1, false)], true, 4, 32, [.int .i64 0, .int .i64 0, .int .i64 0, .int .i64 0]⟩ := by kernel_rfl
theorem ty107 : ty Tryz.prog 107 = some ⟨.mp 3 3, false, 1, 8, [.map none]⟩ := by kernel_rfl
theorem ty109 : ty Tryz.prog 109 = some ⟨.st [some (0, 1, false), some (1, 1, false), some (2, 1, false)], true, 3, 72, [.slice none 0 0, .slice none 0 0, .slice none 0 0]⟩ := by kernel_rfl
theorem ty117 : ty Tryz.prog 117 = some ⟨.st [some (0, 9, true)], true, 9, 152, [.int .i64 0, .int .i64 0, .slice none 0 0, .slice none 0 0, .slice none 0 0, .slice none 0 0, .slice none 0 0, .int .i64 0, .int .i64 0]⟩ := by kernel_rfl
theorem ty119 : ty Tryz.prog 119 = some ⟨.st [some (0, 1, false), some (1, 1, false), some (2, 2, true), some (4, 1, false)], true, 5, 40, [.int .i64 0, .int .i64 0, .int .i64 0, .int .i64 0, .int .i64 0]⟩ := by kernel_rfl
theorem ty124 : ty Tryz.prog 124 = some ⟨.st [some (0, 1, false), some (1, 1, false)], true, 2, 16, [.int .i64 0, .int .i64 0]⟩ := by kernel_rfl
theorem ty126 : ty Tryz.prog 126 = some ⟨.st [some (0, 1, false), some (1, 2, true)], true, 3, 24, [.int .i64 0, .int .i64 0, .int .i64 0]⟩ := by kernel_rfl
theorem ty132 : ty Tryz.prog 132 = some ⟨.other, false, 1, 8, [.nilFunc]⟩ := by kernel_rfl
theorem ty144 : ty Tryz.prog 144 = some ⟨.sl 105, false, 1, 24, [.slice none 0 0]⟩ := by kernel_rfl
theorem ty152 : ty Tryz.prog 152 = some ⟨.mp 85 3, false, 1, 8, [.map none]⟩ := by kernel_rfl
theorem ty153 : ty Tryz.prog 153 = some ⟨.ptr 89, false, 1, 8, [.pointer none]⟩ := by kernel_rfl
theorem ty155 : ty Tryz.prog 155 = some ⟨.other, false, 1, 8, [.nilFunc]⟩ := by kernel_rfl
theorem ty156 : ty Tryz.prog 156 = some ⟨.ptr 117, false, 1, 8, [.pointer none]⟩ := by kernel_rfl
theorem ty157 : ty Tryz.prog 157 = some ⟨.other, false, 1, 8, [.nilFunc]⟩ := by kernel_rfl
theorem ty162 : ty Tryz.prog 162 = some ⟨.other, false, 1, 8, [.nilFunc]⟩ := by kernel_rfl
theorem ty164 : ty Tryz.prog 164 = some ⟨.other, false, 1, 8, [.nilFunc]⟩ := by kernel_rfl
theorem ty181 : ty Tryz.prog 181 = some ⟨.other, false, 1, 8, [.nilFunc]⟩ := by kernel_rfl
theorem ty188 : ty Tryz.prog 188 = some ⟨.ptr 197, false, 1, 8, [.pointer none]⟩ := by kernel_rfl
theorem ty192 : ty Tryz.prog 192 = some ⟨.arr 4 85, true, 8, 64, [.int .i64 0, .int .i64 0, .int .i64 0, .int .i64 0, .int .i64 0, .int .i64 0, .int .i64 0, .int .i64 0]⟩ := by kernel_rfl
theorem ty195 : ty Tryz.prog 195 = some ⟨.sl 241, false, 1, 24, [.slice none 0 0]⟩ := by kernel_rfl
theorem ty197 : ty Tryz.prog 197 = some ⟨.st [some (0, 3, true), some (3, 2, true), some (5, 1, false), some (6, 1, false)], true, 7, 104, [.int .i64 0, .int .i64 0, .slice none 0 0, .int .i64 0, .int .i64 0, .slice none 0 0, .slice none 0 0]⟩ := by kernel_rfl
theorem ty206 : ty Tryz.prog 206 = some ⟨.ptr 209, false, 1, 8, [.pointer none]⟩ := by kernel_rfl
theorem ty207 : ty Tryz.prog 207 = some ⟨.sl 5, false, 1, 24, [.slice none 0 0]⟩ := by kernel_rfl
theorem ty209 : ty Tryz.prog 209 = some ⟨.st [some (0, 1, false), some (1, 1, false)], true, 2, 32, [.pointer none, .slice none 0 0]⟩ := by kernel_rfl
theorem ty217 : ty Tryz.prog 217 = some ⟨.sl 40, false, 1, 24, [.slice none 0 0]⟩ := by kernel_rfl
theorem ty219 : ty Tryz.prog 219 = some ⟨.int .u32, false, 1, 4, [.int .u32 0]⟩ := by kernel_rfl
theorem ty221 : ty Tryz.prog 221 = some ⟨.int .u64, false, 1, 8, [.int .u64 0]⟩ := by kernel_rfl
theorem ty228 : ty Tryz.prog 228 = some ⟨.arr 2 85, true, 4, 32, [.int .i64 0, .int .i64 0, .int .i64 0, .int .i64 0]⟩ := by kernel_rfl
theorem ty232 : ty Tryz.prog 232 = some ⟨.ptr 5, false, 1, 8, [.pointer none]⟩ := by kernel_rfl
theorem ty239 : ty Tryz.prog 239 = some ⟨.ptr 195, false, 1, 8, [.pointer none]⟩ := by kernel_rfl
theorem ty241 : ty Tryz.prog 241 = some ⟨.st [some (0, 2, true), some (2, 1, false), some (3, 1, false)], true, 4, 32, [.int .i64 0, .int .i64 0, .int .i64 0, .int .i64 0]⟩ := by kernel_rfl
theorem ty252 : ty Tryz.prog 252 = some ⟨.ifc, false, 1, 16, [.nilIface]⟩ := by kernel_rfl
theorem fl85 : flatN Tryz.prog 9 85 = some [0, 0] := by kernel_rfl
theorem ag85 : aggT Tryz.prog 85 = true := by kernel_rfl
theorem fl89 : flatN Tryz.prog 9 89 = some [0, 0, 0, 0, 0, 0, 0] := by kernel_rfl
theorem ag89 : aggT Tryz.prog 89 = true := by kernel_rfl
theorem fl96 : flatN Tryz.prog 9 96 = some [0, 0, 0, 0, 0, 0] := by kernel_rfl
theorem ag96 : aggT Tryz.prog 96 = true := by kernel_rfl
theorem meth239_Len : methA Tryz.prog 239 "Len" = some (174, false, some 195) := by kernel_rfl
theorem meth239_Less : methA Tryz.prog 239 "Less" = some (200, false, some 195) := by kernel_rfl
theorem meth239_Pop : methA Tryz.prog 239 "Pop" = some (204, true, some 195) := by kernel_rfl
theorem meth239_Push : methA Tryz.prog 239 "Push" = some (205, true, some 195) := by kernel_rfl
theorem meth239_Swap : methA Tryz.prog 239 "Swap" = some (201, false, some 195) := by kernel_rfl
attribute [push_cast] it3 ty3 ty4 ty5 ty9 ty20 ty22 ty24 ty25 ty26 ty28 ty29 ty30 ty32 it33 ty33 ty39 ty40 ty44 ty47 ty56 ty63 ty64 ty65 ty85 ty89 ty96 ty99 ty105 ty107 ty109 ty117 ty119 ty124 ty126 ty132 ty144 ty152 ty153 ty155 ty156 ty157 ty162 ty164 ty181 ty188 ty192 ty195 ty197 ty206 ty207 ty209 ty217 ty219 ty221 ty228 ty232 ty239 ty241 ty252 fl85 ag85 fl89 ag89 fl96 ag96 meth239_Len meth239_Less meth239_Pop meth239_Push meth239_Swap
end Go.Proofs.YthiddmncjafklaaGreat
namespace Go.Proofs.YthiddmncjafklaaGreat
set_option linter.all false
open Go.RowKit
abbrev In64 (n : Int) : Prop := -9223372036854775808 ≤ n ∧ n ≤ 9223372036854775807
abbrev pI (n : Int) : PV := .v (.int .i64 n)
abbrev pB (b : Bool) : PV := .v (.bool b)
def i64P (n : Int) : List PV := [pI n]
def u64P (n : Nat) : List PV := [.v (.int .u64 n)]
def boolP (b : Bool) : List PV := [pB b]
def strP (s : ByteArray) : List PV := [.v (.string s)]
structure Cel where
 x : Int
 y : Int
 deriving DecidableEq, Inhabited
def celP (c : Cel) : List PV := [pI c.x, pI c.y]
abbrev celA (c : Cel) : AV := .agg [I .i64 c.x, I .i64 c.y]
structure Fld where
 w : Int
 h : Int
 p : List Int
 deriving DecidableEq, Inhabited
abbrev fldA (f : Fld) : AV := .agg [I .i64 f.w, I .i64 f.h, .c (.sl 1 (f.p.map i64P))]
structure Trp where
 id : Int
 owner : Int
 kind : Int
 c : Cel
 life : Int
 load : Int
 deriving DecidableEq, Inhabited
def trpP (t : Trp) : List PV := [pI t.id, pI t.owner, pI t.kind, pI t.c.x, pI t.c.y, pI t.life, pI t.load]
structure Wld where
 f : Fld
 bases : List Cel
 stocks : List Int
 mines : List Int
 troops : List Trp
 next : Int
 now : Int
 deriving DecidableEq, Inhabited
abbrev wldA (w : Wld) : AV := .agg [I .i64 w.f.w, I .i64 w.f.h, .c (.sl 1 (w.f.p.map i64P)), .c (.sl 2 (w.bases.map celP)), .c (.sl 1 (w.stocks.map i64P)), .c (.sl 1 (w.mines.map i64P)), .c (.sl 7 (w.troops.map trpP)), I .i64 w.next, I .i64 w.now]
structure Ord where
 by_ : Int
 kind : Int
 who : Int
 c : Cel
 what : Int
 deriving DecidableEq, Inhabited
def ordP (o : Ord) : List PV := [pI o.by_, pI o.kind, pI o.who, pI o.c.x, pI o.c.y, pI o.what]
abbrev ordA (o : Ord) : AV := .agg [I .i64 o.by_, I .i64 o.kind, I .i64 o.who, I .i64 o.c.x, I .i64 o.c.y, I .i64 o.what]
theorem getD_in {α : Type} [Inhabited α] (f : α → List PV) (l : List α) (i : Nat) (h : i < l.length) : (l.map f).getD i [] = f (l.getD i default) := by
 simp [h]
theorem getD_at {α : Type} [Inhabited α] (l : List α) (i : Nat) (h : i < l.length) : l.getD i default = l[i] := by simp [h]
theorem take_snoc {α : Type} [Inhabited α] (l : List α) (k : Nat) (h : k < l.length) : l.take (k + 1) = l.take k ++ [l.getD k default] := by rw [List.take_succ_eq_append_getElem h, getD_at _ _ h]
def partL {α : Type} (f : α → α) (i : Nat) (g : List α) : List α := (g.take i).map f ++ g.drop i
theorem partL_len {α : Type} (f : α → α) (i : Nat) (g : List α) : (partL f i g).length = g.length := by simp [partL]; omega
theorem partL_0 {α : Type} (f : α → α) (g : List α) : partL f 0 g = g := by simp [partL]
theorem partL_all {α : Type} (f : α → α) (g : List α) : partL f g.length g = g.map f := by simp [partL]
theorem partL_succ {α : Type} [Inhabited α] (f : α → α) (i : Nat) (g : List α) (h : i < g.length) : partL f (i + 1) g = (partL f i g).set i (f (g.getD i default)) := by
 unfold partL
 rw [List.set_append_right _ _ (by simp; omega), getD_at _ _ h]
 rw [List.length_map, List.length_take, Nat.min_eq_left (Nat.le_of_lt h), Nat.sub_self, List.drop_eq_getElem_cons h, List.set_cons_zero, List.take_succ_eq_append_getElem h, List.map_append, List.append_assoc]
 rfl
theorem getD_mem {α : Type} [Inhabited α] (l : List α) (i : Nat) (h : i < l.length) : l.getD i default ∈ l := by rw [getD_at _ _ h]; exact List.getElem_mem h
end Go.Proofs.YthiddmncjafklaaGreat
namespace Go.Proofs.YthiddmncjafklaaGreat
set_option linter.all false
open Go.RowKit
theorem spec_any {P : Program} {f : FuncId} (hf : Enters P f) (args : List AV) (r : AV) (v : Value) (hr : ∀ (U : Nat → Prop) (w : World) (F : Nat → Prop) (β : Nat → Option Bind), RelA U w F β r v)
 (h : ∀ (w : World) (F : Nat → Prop) (β : Nat → Option Bind) (vs : List Value), (∀ b, F b → b < w.heap.size) → RelL (· < 0) w F β args vs → Calls P f vs.toArray w fun e w' => e = .returned v ∧ Below w.heap.size w w') : Spec P f args [] r [] := by
 refine ⟨hf, Nat.le_refl _, fun w F β vs M hv => ?_⟩
 refine (h w F β vs M.fin hv).mono ?_
 rintro e w' ⟨rfl, hb⟩
 obtain ⟨S1, S2⟩ := M.step (w' := w') (h' := nth []) (β' := β) (F' := F) (U' := (· < 0)) (fun _ => False) (fun _ _ => rfl) (fun _ _ => rfl) hb.os hb.tape hb.output hb.size (fun b h _ => hb.block b h) (fun _ h => h) (fun _ h => h)
  (fun b h => ⟨Nat.lt_of_lt_of_le (M.fin b h) hb.size, .inl h⟩) (fun _ _ h => h.elim) (fun _ _ h => h.elim) (fun _ _ _ _ _ h => h.elim) (fun _ _ h => h.elim)
 exact ⟨v, F, β, rfl, S1, hr _ _ _ _, fun _ h => h, fun _ h => .inl h, fun _ _ _ h => h⟩
theorem rel_els {α : Type} {w : World} {F : Nat → Prop} {u : Value} (enc : α → Value) (xs : List α) (hF : ∀ b, F b → b < w.heap.size) (h : RelP w F (.sl 1 (xs.map fun x => [.v (enc x)])) u) :
 ∃ a c, u = .slice a xs.length c ∧ xs.length ≤ c ∧ c ≤ maxLen ∧ Els w w.heap.size a 1 (fun x => [enc x]) xs := by
 simp only [RelP] at h
 obtain ⟨a, c, rfl, h1, h2, h3⟩ := h
 rw [List.length_map] at h1
 refine ⟨a, c, by rw [List.length_map], h1, h2, ?_⟩
 rcases h3 with h3 | ⟨b, o, rfl, hb, hE⟩
 ·exact .inl (by simpa using h3)
 ·refine .inr ⟨b, o, rfl, hF b hb, fun i j v hv => ?_⟩
  cases hx : xs[i]? with
  | none => rw [hx] at hv; simp at hv
  | some x =>
   rw [hx] at hv
   cases j with
   | succ j => simp at hv
   | zero =>
    have hv' : enc x = v := by simpa using hv
    obtain ⟨_, hc⟩ := RelE.at hE i [.v (enc x)] (by simp [hx])
    obtain ⟨u, hu, hr⟩ := RelC.at hc 0 _ rfl
    simp only [RelP] at hr
    rw [← hv', ← hr.1, ← hu]; rfl
theorem relL_one {w : World} {U F : Nat → Prop} {β : Nat → Option Bind} {p : PV} {vs : List Value} (h : RelL U w F β [.c p] vs) : ∃ u, vs = [u] ∧ RelP w F p u := by
 simp only [RelL, RelA] at h
 obtain ⟨u, us, rfl, h1, rfl⟩ := h
 exact ⟨u, rfl, h1⟩
end Go.Proofs.YthiddmncjafklaaGreat
namespace Go.Proofs.YthiddmncjafklaaGreat
set_option linter.all false
open Go.RowKit
def cs (n : Nat) : Nat := n / 2 ^^^ (if n % 2 = 1 then 3988292384 else 0)
def csk : Nat → Nat → Nat
 | 0, n => n
 | k + 1, n => cs (csk k n)
theorem cs_lt (n : Nat) (h : n < 4294967296) : cs n < 4294967296 := by
 unfold cs
 refine Nat.xor_lt_two_pow (n := 32) (by omega) ?_
 split <;> decide
theorem csk_lt (k n : Nat) (h : n < 4294967296) : csk k n < 4294967296 := by
 induction k with
 | zero => exact h
 | succ k ih => exact cs_lt _ ih
theorem x32 (a b : Nat) (ha : a < 4294967296) (hb : b < 4294967296) : bits .xor .u32 (a : Int) (b : Int) = ((a ^^^ b : Nat) : Int) := u32_xor_nat a b ha hb
theorem x32_lt (a b : Nat) (ha : a < 4294967296) (hb : b < 4294967296) : a ^^^ b < 4294967296 := Nat.xor_lt_two_pow (n := 32) ha hb
def tk (n b : Nat) : Nat := csk 8 (n ^^^ b)
theorem tk_lt (n b : Nat) (h : n < 4294967296) (hb : b < 256) : tk n b < 4294967296 := csk_lt 8 _ (x32_lt n b h (by omega))
theorem cs_eq (y : Nat) (h : y < 4294967296) : bits .xor .u32 ((y : Int) / 2) (bits .and .u32 3988292384 (-bits .and .u32 (y : Int) 1 % 4294967296)) = ((cs y : Nat) : Int) := by
 have h1 : bits .and .u32 (y : Int) 1 = ((y % 2 : Nat) : Int) := by
  have := u32_and_nat y 1 h (by decide)
  rw [Nat.and_one_is_mod] at this; exact this
 rw [h1]
 have h2 : (y : Int) / 2 = ((y / 2 : Nat) : Int) := by omega
 rw [h2]
 unfold cs
 rcases Nat.mod_two_eq_zero_or_one y with h0 | h0
 ·rw [h0]
  have e : bits .and .u32 3988292384 (-((0 : Nat) : Int) % 4294967296) = ((0 : Nat) : Int) := by decide +kernel
  rw [e, x32 _ _ (by omega) (by decide)]; simp
 ·rw [h0]
  have e : bits .and .u32 3988292384 (-((1 : Nat) : Int) % 4294967296) = ((3988292384 : Nat) : Int) := by decide +kernel
  rw [e, x32 _ _ (by omega) (by decide)]; simp
theorem cs_xor (x y : Nat) : cs (x ^^^ y) = (if x % 2 = y % 2 then x / 2 ^^^ y / 2 else (x / 2 ^^^ 3988292384) ^^^ y / 2) := by
 unfold cs
 rw [Nat.xor_div_two]
 by_cases h : x % 2 = y % 2
 ·have : ¬ (x ^^^ y) % 2 = 1 := by rw [Nat.xor_mod_two_eq_one]; omega
  rw [if_neg this, if_pos h, Nat.xor_zero]
 ·have : (x ^^^ y) % 2 = 1 := by rw [Nat.xor_mod_two_eq_one]; omega
  rw [if_pos this, if_neg h, Nat.xor_assoc, Nat.xor_comm (y / 2), ← Nat.xor_assoc]
set_option maxHeartbeats 800000 in
theorem take_any (n b : Nat) (w : World) (hn : n < 4294967296) (hb : b < 256) :
 Calls Tryz.prog 178 #[.int .u32 n, .int .u8 b] w fun e w' => e = .returned (.int .u32 (tk n b : Nat)) ∧ w = w' := by
 have hx := x32 n b hn (by omega)
 have hl := x32_lt n b hn (by omega)
 have e : tk n b = csk 8 (n ^^^ b) := rfl
 generalize n ^^^ b = z at hx hl e
 have E := Lib.hid e; clear e
 go_enter Tryz.func178, Tryz.ntmps178
 go_wp2_with fail
 go_loop [0, 9] (fun m i => ∃ k : Nat, k ≤ 8 ∧ i = .int .i64 k ∧ m = .int .u32 (csk k z : Nat)) (fun _ i => 8 - (intOf i).toNat)
 case atStart => exact ⟨0, by omega, rfl, rfl⟩
 case round =>
  obtain ⟨k, hk, rfl, rfl⟩ := hrel
  by_cases h8 : k < 8
  ·have hlk := csk_lt k z hl
   have hs : csk (k + 1) z = cs (csk k z) := rfl
   generalize csk k z = y at *
   have hls := cs_lt y hlk
   have HS := Lib.hid hs; clear hs
   go_wp2_with fail
   go_round
   case rel => exact ⟨k + 1, by omega, by go_num, by rw [HS.out, cs_eq y hlk]⟩
   case measure => simp [intOf]; omega
  ·obtain rfl : k = 8 := by omega
   go_wp2_with fail
   go_ret
   exact ⟨ret_u32 (by rw [E.out]), rfl⟩
theorem step_byte (x y k n b : Nat) (h : x ^^^ y = csk k (n ^^^ b) ∧ y = b / 2 ^ k) :
 (x % 2 = y % 2 → (x / 2) ^^^ (y / 2) = csk (k + 1) (n ^^^ b) ∧ y / 2 = b / 2 ^ (k + 1)) ∧ (x % 2 ≠ y % 2 → (x / 2 ^^^ 3988292384) ^^^ (y / 2) = csk (k + 1) (n ^^^ b) ∧ y / 2 = b / 2 ^ (k + 1)) := by
 obtain ⟨h1, h2⟩ := h
 have e1 : csk (k + 1) (n ^^^ b) = cs (x ^^^ y) := by rw [h1]; rfl
 have e2 : y / 2 = b / 2 ^ (k + 1) := by rw [h2, Nat.div_div_eq_div_mul, Nat.pow_succ]
 rw [e1, cs_xor]
 exact ⟨fun h => ⟨by rw [if_pos h], e2⟩, fun h => ⟨by rw [if_neg h], e2⟩⟩
set_option maxHeartbeats 800000 in
theorem crcByte_any (n b : Nat) (w : World) (hn : n < 4294967296) (hb : b < 256) :
 Calls Tryz.prog 170 #[.int .u32 n, .int .u8 b] w fun e w' => e = .returned (.int .u32 (tk n b : Nat)) ∧ w = w' := by
 go_enter Tryz.func170, Tryz.ntmps170
 go_wp2_with fail
 go_loop [0, 1, 5, 6] (fun m c _ i => ∃ k x y : Nat, k ≤ 8 ∧ i = .int .i64 k ∧ m = .int .u32 (x : Nat) ∧ c = .int .u8 (y : Nat) ∧ Hid (x ^^^ y = csk k (n ^^^ b) ∧ y = b / 2 ^ k) ∧ x < 4294967296 ∧ y < 256) (fun _ _ _ i => 8 - (intOf i).toNat)
 case atStart => exact ⟨0, n, b, by omega, rfl, rfl, rfl, ⟨rfl, by simp⟩, hn, hb⟩
 case round =>
  obtain ⟨k, x, y, hk, rfl, rfl, rfl, hI, hx, hy⟩ := hrel
  by_cases h8 : k < 8
  ·obtain ⟨s1, s2⟩ := step_byte x y k n b hI
   have H1 := Lib.hid s1
   have H2 := Lib.hid s2
   have hxx := x32 (x / 2) 3988292384 (by omega) (by decide)
   have hxl := x32_lt (x / 2) 3988292384 (by omega) (by decide)
   have HXX := Lib.hid hxx
   have HXL := Lib.hid hxl
   clear s1 s2 hI hxx hxl
   by_cases hp : x % 2 = y % 2
   ·have hP := Lib.hid hp
    have hb1 : ((x : Int) % 2 == 1) = ((y : Int) % 2 == 1) := by
     rw [Bool.eq_iff_iff]; simp; omega
    generalize hq : ((y : Int) % 2 == 1) = q at hb1
    clear hp
    have h2 : ((x : Int) % 2 == 1) = q := hb1
    cases q
    all_goals
     go_wp2_with fail
     go_round
     case rel => exact ⟨k + 1, x / 2, y / 2, by omega, by go_num, by go_num, by go_num, H1.out hP.out, by omega, by omega⟩
     case measure => simp [intOf]; omega
   ·have hP := Lib.hid hp
    have hb1 : ((x : Int) % 2 == 1) = !((y : Int) % 2 == 1) := by
     rw [Bool.eq_iff_iff]; simp; omega
    generalize hq : ((y : Int) % 2 == 1) = q at hb1
    clear hp
    cases q
    all_goals
     simp only [Bool.not_false, Bool.not_true] at hb1
     go_wp2_with fail
     go_round
     case rel => exact ⟨k + 1, x / 2 ^^^ 3988292384, y / 2, by omega, by go_num, by have := HXX.out; rw [← this]; go_num, by go_num, H2.out hP.out, HXL.out, by omega⟩
     case measure => simp [intOf]; omega
  ·obtain rfl : k = 8 := by omega
   go_wp2_with fail
   go_ret
   refine ⟨ret_u32 ?_, rfl⟩
   obtain ⟨h1, h2⟩ := hI.out
   have hy0 : y = 0 := by rw [h2]; exact Nat.div_eq_of_lt hb
   rw [hy0, Nat.xor_zero] at h1
   rw [h1]; rfl
end Go.Proofs.YthiddmncjafklaaGreat
namespace Go.Proofs.YthiddmncjafklaaGreat
set_option linter.all false
open Go.RowKit
def tks (n : Nat) (l : List UInt8) : Nat := l.foldl (fun n b => tk n b.toNat) n
theorem tks_lt (l : List UInt8) : ∀ n, n < 4294967296 → tks n l < 4294967296 := by
 induction l with
 | nil => intro n h; exact h
 | cons b l ih => intro n h; exact ih _ (tk_lt n _ h (UInt8.toNat_lt b))
theorem tks_snoc (n : Nat) (l : List UInt8) (b : UInt8) : tks n (l ++ [b]) = tk (tks n l) b.toNat := by simp [tks]
def crcM (n : Nat) (l : List UInt8) : Nat := 4294967295 - tks (4294967295 - n) l
theorem crcM_lt (n : Nat) (l : List UInt8) : crcM n l < 4294967296 := by unfold crcM; omega
theorem not32 (n : Nat) (h : n < 4294967296) : bits .xor .u32 IntKind.u32.max (n : Int) = ((4294967295 - n : Nat) : Int) := by
 have e1 : IntKind.u32.max = ((4294967295 : Nat) : Int) := by decide
 rw [e1, x32 _ _ (by decide) h]
 congr 1
 have e2 : (BitVec.ofNat 32 4294967295 ^^^ BitVec.ofNat 32 n) = ~~~(BitVec.ofNat 32 n) := by
  have : BitVec.ofNat 32 4294967295 = BitVec.allOnes 32 := by decide
  rw [this, BitVec.allOnes_xor]
 have e3 := congrArg BitVec.toNat e2
 rw [BitVec.toNat_xor, BitVec.toNat_not, BitVec.toNat_ofNat, BitVec.toNat_ofNat, Nat.mod_eq_of_lt (show n < 2 ^ 32 from h)] at e3
 exact e3
set_option maxHeartbeats 800000 in
theorem more_any (n : Nat) (s : ByteArray) (w : World) (hn : n < 4294967296) (hs : s.size ≤ 140737488351232) :
 Calls Tryz.prog 169 #[.int .u32 n, .string s] w fun e w' => e = .returned (.int .u32 (crcM n s.data.toList : Nat)) ∧ w = w' := by
 go_enter Tryz.func169, Tryz.ntmps169
 go_wp2_with fail
 go_loop [0, 5, 10] (fun m _ i => ∃ k : Nat, k ≤ s.size ∧ i = .int .i64 k ∧ m = .int .u32 (tks (4294967295 - n) (s.data.toList.take k) : Nat)) (fun _ _ i => s.size - (intOf i).toNat)
 case atStart => exact ⟨0, by omega, rfl, by rw [not32 n hn]; rfl⟩
 case round =>
  obtain ⟨k, hk, rfl, rfl⟩ := hrel
  have hl := tks_lt (s.data.toList.take k) (4294967295 - n) (by omega)
  by_cases h8 : k < s.size
  ·have hs1 : tks (4294967295 - n) (s.data.toList.take (k + 1)) = tk (tks (4294967295 - n) (s.data.toList.take k)) s[k].toNat := by rw [bytes_snoc s k h8, tks_snoc]
   generalize tks (4294967295 - n) (s.data.toList.take k) = y at *
   have HS := Lib.hid hs1; clear hs1
   go_wp2_with (go_at_call 178; refine (take_any _ _ _ hl (UInt8.toNat_lt _)).mono ?_; rintro e w' ⟨rfl, rfl⟩)
   go_round
   case rel => exact ⟨k + 1, by omega, by go_num, by rw [HS.out]⟩
   case measure => simp [intOf]; omega
  ·have hke : k = s.size := by omega
   go_wp2_with fail
   go_ret
   refine ⟨ret_u32 ?_, rfl⟩
   rw [hke] at hl
   rw [not32 _ hl, crcM, take_all]
set_option maxHeartbeats 800000 in
theorem crcMore_any (n : Nat) (s : ByteArray) (w : World) (hn : n < 4294967296) (hs : s.size ≤ 140737488351232) :
 Calls Tryz.prog 154 #[.int .u32 n, .string s] w fun e w' => e = .returned (.int .u32 (crcM n s.data.toList : Nat)) ∧ Below w.heap.size w w' := by
 have hcv := fun w => Lib.run_convert_string_bytes (P := Tryz.prog) w 9 207 5 s Tryz.underlying9 Tryz.underlying207 Tryz.underlying5
 go_enter Tryz.func154, Tryz.ntmps154
 go_wp2_with fail
 have hcell := fun j hj => Lib.bytesWorld_cell w 5 s j hj
 have hbw : Below w.heap.size w (Lib.bytesWorld w 5 s) := ⟨rfl, rfl, rfl, by rw [Lib.bytesWorld_size]; omega, fun k hk => Lib.bytesWorld_at_old w _ s k hk⟩
 obtain ⟨W, hW⟩ : ∃ W, W = Lib.bytesWorld w 5 s := ⟨_, rfl⟩
 rw [← hW] at hcell hbw ⊢
 generalize grownCap w s.size 0 5 = cp
 have HC := Lib.hid hcell
 have HB := Lib.hid hbw
 clear hcell hbw hW hcv
 go_loop [0, 6, 12] (fun m _ i => ∃ k : Nat, k ≤ s.size ∧ i = .int .i64 k ∧ m = .int .u32 (tks (4294967295 - n) (s.data.toList.take k) : Nat)) (fun _ _ i => s.size - (intOf i).toNat)
 case atStart => exact ⟨0, by omega, rfl, congrArg (Value.int .u32) (by show _ = ((4294967295 - n : Nat) : Int); omega)⟩
 case round =>
  obtain ⟨k, hk, rfl, rfl⟩ := hrel
  have hl := tks_lt (s.data.toList.take k) (4294967295 - n) (by omega)
  by_cases h8 : k < s.size
  ·have hs1 : tks (4294967295 - n) (s.data.toList.take (k + 1)) = tk (tks (4294967295 - n) (s.data.toList.take k)) s[k].toNat := by rw [bytes_snoc s k h8, tks_snoc]
   generalize tks (4294967295 - n) (s.data.toList.take k) = y at *
   have HS := Lib.hid hs1; clear hs1
   have hc := HC.out k h8
   have he : (s.data.toList.getD k 0) = s[k] := by
    rw [List.getD_eq_getElem?_getD, List.getElem?_eq_getElem (by simpa using h8)]; rfl
   rw [he] at hc
   have hlt := UInt8.toNat_lt s[k]
   generalize s[k].toNat = q at *
   clear he
   go_wp2_with (go_at_call 170; refine (crcByte_any _ _ _ hl hlt).mono ?_; rintro e w' ⟨rfl, rfl⟩)
   go_round
   case rel => exact ⟨k + 1, by omega, by go_num, by rw [HS.out]⟩
   case measure => simp [intOf]; omega
  ·have hke : k = s.size := by omega
   have hfin : tks (4294967295 - n) (s.data.toList.take k) = tks (4294967295 - n) s.data.toList := by rw [hke, take_all]
   have HF := Lib.hid hfin; clear hfin hke
   generalize tks (4294967295 - n) (s.data.toList.take k) = y at *
   go_wp2_with fail
   go_ret
   refine ⟨ret_u32 ?_, HB.out⟩
   rw [crcM, ← HF.out]; omega
set_option maxHeartbeats 800000 in
theorem of_crc (s : ByteArray) (w : World) (hs : s.size ≤ 140737488351232) :
 Calls Tryz.prog 153 #[.string s] w fun e w' => e = .returned (.int .u32 (crcM 0 s.data.toList : Nat)) ∧ w = w' := by
 go_enter Tryz.func153, Tryz.ntmps153
 go_wp2_with fail
 refine (more_any 0 s w (by decide) hs).mono ?_
 rintro e w' ⟨rfl, rfl⟩
 go_wp2_with fail
 go_ret
 exact ⟨rfl, rfl⟩
def sealB (n : Nat) : List UInt8 := [UInt8.ofNat (n % 256), UInt8.ofNat (n / 256 % 256), UInt8.ofNat (n / 65536 % 256), UInt8.ofNat (n / 16777216 % 256)]
def sealS (s : ByteArray) : ByteArray := s ++ ⟨(sealB (crcM 0 s.data.toList)).toArray⟩
set_option maxHeartbeats 800000 in
set_option maxRecDepth 100000 in
theorem seal_any (s : ByteArray) (w : World) (hs : s.size ≤ 140737488351232) :
 Calls Tryz.prog 117 #[.string s] w fun e w' => e = .returned (.string (sealS s)) ∧ Below w.heap.size w w' := by
 have hS : sealS s = s ++ ⟨(sealB (crcM 0 s.data.toList)).toArray⟩ := rfl
 have hl := crcM_lt 0 s.data.toList
 go_enter Tryz.func117, Tryz.ntmps117
 go_wp2_with fail
 refine (of_crc s w hs).mono ?_
 rintro e w' ⟨rfl, rfl⟩
 generalize crcM 0 s.data.toList = n at *
 have hcv := run_convert_bytes_back (P := Tryz.prog) (w.alloc (Obj.cells #[Value.int IntKind.u8 ((n : Int) % 256), Value.int IntKind.u8 ((n : Int) / 256 % 256), Value.int IntKind.u8 ((n : Int) / 65536 % 256), Value.int IntKind.u8 ((n : Int) / 16777216)] 5)) 207 9 5 ⟨w.heap.size, 0, none⟩ 4 (sealB n) Tryz.underlying207 Tryz.underlying5 Tryz.underlying9 (by
  intro j hj
  have h1 : (UInt8.ofNat (n % 256)).toNat = n % 256 := u8_ofNat_toNat _ (by omega)
  have h2 : (UInt8.ofNat (n / 256 % 256)).toNat = n / 256 % 256 := u8_ofNat_toNat _ (by omega)
  have h3 : (UInt8.ofNat (n / 65536 % 256)).toNat = n / 65536 % 256 := u8_ofNat_toNat _ (by omega)
  have h4 : (UInt8.ofNat (n / 16777216 % 256)).toNat = n / 16777216 % 256 := u8_ofNat_toNat _ (by omega)
  have hjl : j < 4 := hj
  rw [Addr.add_lit]
  match j, hjl with
  | 0, _ => simp only [sealB, List.getElem_cons_zero, h1]; simp [go_sem]
  | 1, _ => simp only [sealB, List.getElem_cons_succ, List.getElem_cons_zero, h2]; simp [go_sem]
  | 2, _ => simp only [sealB, List.getElem_cons_succ, List.getElem_cons_zero, h3]; simp [go_sem]
  | 3, _ => simp only [sealB, List.getElem_cons_succ, List.getElem_cons_zero, h4]; simp [go_sem]; omega)
 have e4 : (sealB n).length = 4 := rfl
 rw [e4] at hcv
 have hsz : (ByteArray.mk (sealB n).toArray).size = 4 := rfl
 have HS := Lib.hid hS; clear hS
 obtain ⟨T, hT⟩ : ∃ T, T = ByteArray.mk (sealB n).toArray := ⟨_, rfl⟩
 rw [← hT] at hcv hsz
 have HT := Lib.hid hT; clear hT e4
 go_wp2_with fail
 go_ret
 refine ⟨congrArg Ending.returned (congrArg Value.string ?_), by go_grown⟩
 rw [HS.out, HT.out]
def bcells (xs : List Nat) (k : Nat) : List Value := (xs.take k).map (fun x : Nat => Value.int .u8 x) ++ List.replicate (xs.length - k) (.int .u8 0)
theorem bcells_set (xs : List Nat) (k : Nat) (h : k < xs.length) : (bcells xs k).set k (.int .u8 (xs[k] : Nat)) = bcells xs (k + 1) := by
 unfold bcells
 have hl : ((xs.take k).map (fun x => Value.int .u8 (x : Nat))).length = k := by simp; omega
 rw [List.set_append_right _ _ (by omega), hl, Nat.sub_self]
 have e : xs.length - k = (xs.length - (k + 1)) + 1 := by omega
 rw [e, List.replicate_succ, List.set_cons_zero, take_snoc' xs k h, List.map_append]
 simp
set_option maxHeartbeats 1000000 in
set_option maxRecDepth 100000 in
theorem bytes_any (a : Option Addr) (c B : Nat) (xs : List Nat) (w : World) (hm : xs.length ≤ 1000) (hx : Els w B a 1 ei64 (xs.map fun x : Nat => (x : Int))) (hB : B ≤ w.heap.size) (hb : ∀ x ∈ xs, x < 256) :
 Calls Tryz.prog 155 #[.slice a xs.length c] w fun e w' => e = .returned (.string ⟨(xs.map UInt8.ofNat).toArray⟩) ∧ Below w.heap.size w w' := by
 have H := Lib.hid hx; clear hx
 have HB := Lib.hid hb; clear hb
 go_enter Tryz.func155, Tryz.ntmps155
 go_wp2_with (at_make; refine wpMake _ rfl _ _ _ rfl w.heap.size _ _ _ elT_u8 xs.length _ _ rfl rfl rfl rfl ?_ ?_ ?_ ?_)
 ·omega
 ·simp only [maxLen]; omega
 ·omega
 intro w1 hown hg
 have hb1 : Below w.heap.size w w1 := (Below.refl _ _).grown hg (Nat.le_refl _) (by simp)
 have hcells : List.replicate xs.length (Value.int .u8 0) = bcells xs 0 := by simp [bcells]
 rw [hcells] at hown
 have HO := Lib.hid hown
 have HB1 := Lib.hid hb1
 clear hown hb1 hcells hg
 go_wp2_with fail
 go_loopw [4, 5, 11] (fun _ _ i wr => ∃ k : Nat, k ≤ xs.length ∧ i = .int .i64 k ∧ Hid (wr.ownsRow w.heap.size 5 1 (.slice (some ⟨w.heap.size, 0, none⟩) xs.length xs.length) xs.length (bcells xs k) ∧ Below w.heap.size w wr)) (fun _ _ i _ => xs.length - (intOf i).toNat)
 case atStart => exact ⟨0, by omega, rfl, HO.out, HB1.out⟩
 case round =>
  obtain ⟨k, hk, rfl, hI⟩ := hrel
  by_cases hlt : k < xs.length
  ·obtain ⟨b, o, rfl, hbB, hc⟩ := (H.out.below hI.out.2 hB).i64 k (by simpa using hlt)
   have hge : (xs.map fun x : Nat => (x : Int))[k]'(by simpa using hlt) = ((xs[k] : Nat) : Int) := by simp
   rw [hge] at hc
   have hx256 := HB.out xs[k] (List.getElem_mem hlt)
   have hset := bcells_set xs k hlt
   generalize xs[k] = x at *
   have hst := hI.out.1.stored k (.int .u8 x)
   have hfr := hI.out.1.frozenAt k
   have hcc : ∃ u, wr.cell? ⟨w.heap.size, k, none⟩ = some u := by
    have h := hI.out.1.cellAt k (by omega)
    rw [h]
    have hl := hI.out.1.1
    exact ⟨_, List.getElem?_eq_getElem (by omega)⟩
   obtain ⟨u, hu⟩ := hcc
   have HST := Lib.hid hst; clear hst
   have HSET := Lib.hid hset; clear hset hge
   go_wp2_with fail
   go_roundw
   case rel =>
    refine ⟨k + 1, by omega, by go_num, ?_, ?_⟩
    ·rw [← HSET.out]; exact HST.out.1
    ·exact hI.out.2.grown HST.out.2 hI.out.2.size (by simp)
   case measure => simp [intOf]; omega
  ·obtain rfl : k = xs.length := by omega
   have hcv := run_convert_bytes_back (P := Tryz.prog) wr 207 9 5 ⟨w.heap.size, 0, none⟩ xs.length (xs.map UInt8.ofNat) Tryz.underlying207 Tryz.underlying5 Tryz.underlying9 (by
    intro j hj
    have hj' : j < xs.length := by simpa using hj
    rw [Addr.add_lit, Nat.zero_add, hI.out.1.cellAt j (by omega)]
    simp only [bcells, List.take_length, Nat.sub_self, List.replicate_zero, List.append_nil, List.getElem?_map, List.getElem_map, List.getElem?_eq_getElem hj', Option.map_some, u8_ofNat_toNat _ (HB.out _ (List.getElem_mem hj'))])
   rw [List.length_map] at hcv
   go_wp2_with fail
   go_ret
   exact ⟨rfl, hI.out.2⟩
end Go.Proofs.YthiddmncjafklaaGreat
namespace Go.Proofs.YthiddmncjafklaaGreat
set_option linter.all false
open Go.RowKit
def openR (s : ByteArray) : ByteArray × Int :=
 if s.size < 4 then (⟨#[]⟩, 3) else if sealS (s.extract 0 (s.size - 4)) = s then (s.extract 0 (s.size - 4), 0) else (⟨#[]⟩, 5)
theorem extract_size (s : ByteArray) (h : 4 ≤ s.size) : (s.extract 0 (s.size - 4)).size = s.size - 4 := by rw [ByteArray.size_extract]; omega
set_option maxHeartbeats 800000 in
theorem open_any (s : ByteArray) (w : World) (hs : s.size ≤ 140737488351232) :
 Calls Tryz.prog 73 #[.string s] w fun e w' => e = .returned (.tuple #[.string (openR s).1, .int .i64 (openR s).2]) ∧ Below w.heap.size w w' := by
 by_cases h4 : s.size < 4
 ·have hr : openR s = (⟨#[]⟩, 3) := by simp [openR, h4]
  rw [hr]
  go_enter Tryz.func73, Tryz.ntmps73
  go_wp2_with fail
  go_ret2
  exact ⟨rfl, Below.refl _ _⟩
 ·have hex := extract_size s (by omega)
  by_cases hq : sealS (s.extract 0 (s.size - 4)) = s
  ·have hr : openR s = (s.extract 0 (s.size - 4), 0) := by simp [openR, h4, hq]
   rw [hr]
   have HQ := Lib.hid hq; clear hq hr
   go_enter Tryz.func73, Tryz.ntmps73
   go_wp2_with fail
   refine (seal_any _ _ (by omega)).mono ?_
   rintro e w1 ⟨rfl, hb⟩
   rw [HQ.out]
   have HB := Lib.hid hb; clear hb
   go_wp2_with fail
   go_ret2
   exact ⟨rfl, HB.out⟩
  ·have hr : openR s = (⟨#[]⟩, 5) := by simp [openR, h4, hq]
   rw [hr]
   go_enter Tryz.func73, Tryz.ntmps73
   go_wp2_with fail
   refine (seal_any _ _ (by omega)).mono ?_
   rintro e w1 ⟨rfl, hb⟩
   have HB := Lib.hid hb; clear hb hr hex
   generalize sealS (s.extract 0 (s.size - 4)) = t at *
   have hne := str_ne hq
   clear hq
   go_wp2_with fail
   go_ret2
   exact ⟨rfl, HB.out⟩
set_option maxHeartbeats 800000 in
theorem sealed_any (s : ByteArray) (w : World) (hs : s.size ≤ 140737488351232) :
 Calls Tryz.prog 121 #[.string s] w fun e w' => e = .returned (.string (sealS s)) ∧ Below w.heap.size w w' := by
 have hS : sealS s = s ++ ⟨(sealB (crcM 0 s.data.toList)).toArray⟩ := rfl
 have hl := crcM_lt 0 s.data.toList
 go_enter Tryz.func121, Tryz.ntmps121
 go_wp2_with fail
 refine (crcMore_any 0 s w (by decide) hs).mono ?_
 rintro e w1 ⟨rfl, hb1⟩
 generalize crcM 0 s.data.toList = n at *
 have HS := Lib.hid hS; clear hS
 have HB := Lib.hid hb1; clear hb1
 go_wp2_with fail
 refine (bytes_any _ _ (w1.heap.size + 1) [n % 256, n / 256 % 256, n / 65536 % 256, n / 16777216 % 256] _ (by simp) ?_ (by simp) ?_).mono ?_
 ·refine .inr ⟨w1.heap.size, 0, rfl, by omega, fun i j v hv => ?_⟩
  match i, j, hv with
  | 0, 0, hv => simp [ei64] at hv; subst hv; simp [go_sem]
  | 1, 0, hv => simp [ei64] at hv; subst hv; simp [go_sem]
  | 2, 0, hv => simp [ei64] at hv; subst hv; simp [go_sem]
  | 3, 0, hv => simp [ei64] at hv; subst hv; simp [go_sem]; omega
  | 0, j + 1, hv => simp [ei64] at hv
  | 1, j + 1, hv => simp [ei64] at hv
  | 2, j + 1, hv => simp [ei64] at hv
  | 3, j + 1, hv => simp [ei64] at hv
  | i + 4, j, hv => simp at hv
 ·intro x hx; simp at hx; rcases hx with rfl | rfl | rfl | rfl <;> omega
 rintro e w2 ⟨rfl, hb2⟩
 have HB2 := Lib.hid hb2; clear hb2
 have hsz : (ByteArray.mk (sealB n).toArray).size = 4 := rfl
 have hT : ByteArray.mk (List.map UInt8.ofNat [n % 256, n / 256 % 256, n / 65536 % 256, n / 16777216 % 256]).toArray = ByteArray.mk (sealB n).toArray := rfl
 rw [hT]
 generalize ByteArray.mk (sealB n).toArray = T at *
 clear hT
 go_wp2_with fail
 go_ret
 refine ⟨congrArg Ending.returned (congrArg Value.string HS.out.symm), ?_⟩
 exact HB.out.trans (((below_lit w1 _).trans (HB2.out.mono (by simp))).mono HB.out.size)
set_option maxHeartbeats 800000 in
theorem opened_any (s : ByteArray) (w : World) (hs : s.size ≤ 140737488351232) :
 Calls Tryz.prog 78 #[.string s] w fun e w' => e = .returned (.tuple #[.string (openR s).1, .int .i64 (openR s).2]) ∧ Below w.heap.size w w' := by
 by_cases h4 : s.size < 4
 ·have hr : openR s = (⟨#[]⟩, 3) := by simp [openR, h4]
  rw [hr]
  go_enter Tryz.func78, Tryz.ntmps78
  go_wp2_with fail
  go_ret2
  exact ⟨rfl, Below.refl _ _⟩
 ·have hex := extract_size s (by omega)
  by_cases hq : sealS (s.extract 0 (s.size - 4)) = s
  ·have hr : openR s = (s.extract 0 (s.size - 4), 0) := by simp [openR, h4, hq]
   rw [hr]
   have HQ := Lib.hid hq; clear hq hr
   go_enter Tryz.func78, Tryz.ntmps78
   go_wp2_with fail
   refine (sealed_any _ _ (by omega)).mono ?_
   rintro e w1 ⟨rfl, hb⟩
   rw [HQ.out]
   have HB := Lib.hid hb; clear hb
   go_wp2_with fail
   go_ret2
   exact ⟨rfl, HB.out⟩
  ·have hr : openR s = (⟨#[]⟩, 5) := by simp [openR, h4, hq]
   rw [hr]
   go_enter Tryz.func78, Tryz.ntmps78
   go_wp2_with fail
   refine (sealed_any _ _ (by omega)).mono ?_
   rintro e w1 ⟨rfl, hb⟩
   have HB := Lib.hid hb; clear hb hr hex
   generalize sealS (s.extract 0 (s.size - 4)) = t at *
   have hne := str_ne hq
   clear hq
   go_wp2_with fail
   go_ret2
   exact ⟨rfl, HB.out⟩
end Go.Proofs.YthiddmncjafklaaGreat
namespace Go.Proofs.YthiddmncjafklaaGreat
set_option linter.all false
open Go.RowKit
def packF : Nat → Nat → List UInt8
 | 0, n => [UInt8.ofNat n]
 | f + 1, n => if n < 128 then [UInt8.ofNat n] else UInt8.ofNat (128 + n % 128) :: packF f (n / 128)
def packB (n : Nat) : List UInt8 := packF 9 n
def packS (n : Nat) : ByteArray := ⟨(packB n).toArray⟩
theorem packF_len (f n : Nat) : 1 ≤ (packF f n).length ∧ (packF f n).length ≤ f + 1 := by
 induction f generalizing n with
 | zero => simp [packF]
 | succ f ih =>
  have := ih (n / 128)
  simp only [packF]; split <;> simp <;> omega
theorem packS_size (n : Nat) : 1 ≤ (packS n).size ∧ (packS n).size ≤ 10 := by
 have := packF_len 9 n
 show 1 ≤ (packF 9 n).toArray.size ∧ (packF 9 n).toArray.size ≤ 10
 simpa using this
theorem packF_small (f n : Nat) (h : n < 128) : packF f n = [UInt8.ofNat n] := by cases f <;> simp [packF, h]
def foldN (n : Int) : Nat := if 0 ≤ n then (2 * n).toNat else (2 * (-(n + 1)) + 1).toNat
def unfN (n : Nat) : Int := if n % 2 = 0 then (n / 2 : Nat) else -((n / 2 : Nat) : Int) - 1
theorem foldN_lt (n : Int) (h : I64 n) : foldN n < 18446744073709551616 := by unfold I64 at h; unfold foldN; split <;> omega
theorem xor_ones (a : Nat) (h : a < 18446744073709551616) : bits .xor .u64 (a : Int) (18446744073709551615 : Int) = ((18446744073709551615 - a : Nat) : Int) := by
 have e1 : (18446744073709551615 : Int) = ((18446744073709551615 : Nat) : Int) := rfl
 rw [e1, u64_xor_nat a _ h (by decide)]
 congr 1
 have e3 := congrArg BitVec.toNat (BitVec.xor_allOnes (x := BitVec.ofNat 64 a))
 rw [BitVec.toNat_xor, BitVec.toNat_not, BitVec.toNat_ofNat, BitVec.toNat_allOnes, Nat.mod_eq_of_lt (show a < 2 ^ 64 from h)] at e3
 exact e3
theorem xor_zero64 (a : Nat) (h : a < 18446744073709551616) : bits .xor .u64 (a : Int) (0 : Int) = (a : Int) := by
 have e1 : (0 : Int) = ((0 : Nat) : Int) := rfl
 rw [e1, u64_xor_nat a _ h (by decide)]
 simp
theorem xor_i64_ones (x : Nat) (hx : x < 9223372036854775808) : bits .xor .i64 (x : Int) (-1) = -(x : Int) - 1 := by
 show IntKind.i64.wrap ((BitVec.ofInt 64 (x : Int) ^^^ BitVec.ofInt 64 (-1)).toNat : Int) = _
 rw [BitVec.xor_comm]
 exact Lib.i64_not x hx
theorem xor_i64_zero (x : Nat) (hx : x < 9223372036854775808) : bits .xor .i64 (x : Int) 0 = (x : Int) := by
 show IntKind.i64.wrap ((BitVec.ofInt 64 (x : Int) ^^^ BitVec.ofInt 64 0).toNat : Int) = _
 rw [show BitVec.ofInt 64 0 = 0#64 from by decide, BitVec.xor_zero, BitVec.ofInt_natCast, BitVec.toNat_ofNat, IntKind.wrap_i64]
 omega
set_option maxHeartbeats 800000 in
theorem fold_any (n : Int) (h : I64 n) (w : World) :
 Calls Tryz.prog 146 #[.int .i64 n] w fun e w' => e = .returned (.int .u64 (foldN n : Nat)) ∧ w = w' := by
 unfold I64 at h
 go_enter Tryz.func146, Tryz.ntmps146
 go_wp2_with fail
 go_returns
 refine ⟨ret_u64 ?_, rfl⟩
 unfold foldN
 simp only [IntKind.wrap_u64]
 by_cases h0 : 0 ≤ n
 ·rw [if_pos h0, show n / 9223372036854775808 % 18446744073709551616 = 0 from by omega, show n % 18446744073709551616 * 2 % 18446744073709551616 = (((2 * n).toNat : Nat) : Int) from by omega, xor_zero64 _ (by omega)]
 ·rw [if_neg h0, show n / 9223372036854775808 % 18446744073709551616 = 18446744073709551615 from by omega, show n % 18446744073709551616 * 2 % 18446744073709551616 = (((2 * n + 18446744073709551616).toNat : Nat) : Int) from by omega, xor_ones _ (by omega)]
  omega
set_option maxHeartbeats 800000 in
theorem unfold_any (n : Nat) (h : n < 18446744073709551616) (w : World) :
 Calls Tryz.prog 119 #[.int .u64 n] w fun e w' => e = .returned (.int .i64 (unfN n)) ∧ w = w' := by
 go_enter Tryz.func119, Tryz.ntmps119
 go_wp2_with fail
 go_returns
 refine ⟨ret_i64 ?_, rfl⟩
 rw [Lib.u64_and1 _ (by omega) (by omega)]
 unfold unfN wrap64
 by_cases h0 : n % 2 = 0
 ·rw [if_pos h0, show ((n : Int) % 2) = 0 from by omega, show ((n : Int) / 2) = ((n / 2 : Nat) : Int) from by omega]
  exact xor_i64_zero _ (by omega)
 ·rw [if_neg h0, show ((n : Int) % 2) = 1 from by omega, show ((n : Int) / 2) = ((n / 2 : Nat) : Int) from by omega]
  exact xor_i64_ones _ (by omega)
set_option maxHeartbeats 800000 in
theorem unfolded_any (n : Nat) (h : n < 18446744073709551616) (w : World) :
 Calls Tryz.prog 123 #[.int .u64 n] w fun e w' => e = .returned (.int .i64 (unfN n)) ∧ w = w' := by
 by_cases h0 : n % 2 = 0
 ·go_enter Tryz.func123, Tryz.ntmps123
  go_wp2_with fail
  go_returns
  refine ⟨ret_i64 ?_, rfl⟩
  unfold unfN; rw [if_pos h0]; omega
 ·go_enter Tryz.func123, Tryz.ntmps123
  go_wp2_with fail
  go_returns
  refine ⟨ret_i64 ?_, rfl⟩
  unfold unfN; rw [if_neg (by omega)]; omega
end Go.Proofs.YthiddmncjafklaaGreat
namespace Go.Proofs.YthiddmncjafklaaGreat
set_option linter.all false
open Go.RowKit
set_option maxHeartbeats 1000000 in
set_option maxRecDepth 20000 in
theorem packed_any (f : Nat) : f ≤ 9 → ∀ (n : Nat) (w : World), n < 18446744073709551616 → n < 128 ^ (f + 1) →
 Calls Tryz.prog 150 #[.int .u64 n] w fun e w' => e = .returned (.string ⟨(packF f n).toArray⟩) ∧ Below w.heap.size w w' := by
 induction f with
 | zero =>
  intro _ n w h hf
  have h1 : n < 128 := by simpa using hf
  clear hf
  rw [packF_small 0 n h1]
  go_enter Tryz.func150, Tryz.ntmps150
  go_wp2_with fail
  refine (bytes_any _ _ (w.heap.size + 1) [n] _ (by simp) ?_ (by simp) (by simp; omega)).mono ?_
  ·refine .inr ⟨w.heap.size, 0, rfl, by omega, fun i j v hv => ?_⟩
   match i, j, hv with
   | 0, 0, hv => simp [ei64] at hv; subst hv; simp [go_sem]
   | 0, j + 1, hv => simp [ei64] at hv
   | i + 1, j, hv => simp at hv
  rintro e w1 ⟨rfl, hb⟩
  have HB := PLift.up (((below_lit w _).trans (hb.mono (by simp))))
  clear hb
  go_wp2_with fail
  go_returns
  exact ⟨rfl, HB.down⟩
 | succ f ih =>
  intro hf9 n w h hf
  by_cases h1 : n < 128
  ·clear ih hf
   rw [packF_small _ n h1]
   go_enter Tryz.func150, Tryz.ntmps150
   go_wp2_with fail
   refine (bytes_any _ _ (w.heap.size + 1) [n] _ (by simp) ?_ (by simp) (by simp; omega)).mono ?_
   ·refine .inr ⟨w.heap.size, 0, rfl, by omega, fun i j v hv => ?_⟩
    match i, j, hv with
    | 0, 0, hv => simp [ei64] at hv; subst hv; simp [go_sem]
    | 0, j + 1, hv => simp [ei64] at hv
    | i + 1, j, hv => simp at hv
   rintro e w1 ⟨rfl, hb⟩
   have HB := PLift.up (((below_lit w _).trans (hb.mono (by simp))))
   clear hb
   go_wp2_with fail
   go_returns
   exact ⟨rfl, HB.down⟩
  ·have hq : n / 128 < 128 ^ (f + 1) := by rw [Nat.pow_succ] at hf; exact Nat.div_lt_of_lt_mul (by omega)
   have IH := PLift.up (fun w => ih (by omega) (n / 128) w (by omega) hq)
   have hp : packF (f + 1) n = UInt8.ofNat (128 + n % 128) :: packF f (n / 128) := by simp [packF, h1]
   have HP := PLift.up hp
   have hl := (packF_len f (n / 128)).2
   clear ih hf hq hp
   go_enter Tryz.func150, Tryz.ntmps150
   go_wp2_with fail
   refine (bytes_any _ _ (w.heap.size + 1) [128 + n % 128] _ (by simp) ?_ (by simp) (by simp; omega)).mono ?_
   ·refine .inr ⟨w.heap.size, 0, rfl, by omega, fun i j v hv => ?_⟩
    match i, j, hv with
    | 0, 0, hv => simp [ei64] at hv; subst hv; simp [go_sem]
    | 0, j + 1, hv => simp [ei64] at hv
    | i + 1, j, hv => simp at hv
   rintro e w1 ⟨rfl, hb⟩
   have HB := PLift.up (((below_lit w _).trans (hb.mono (by simp))))
   clear hb
   have hsz := HB.down.size
   obtain ⟨T1, hT1⟩ : ∃ T1, T1 = ByteArray.mk (List.map UInt8.ofNat [128 + n % 128]).toArray := ⟨_, rfl⟩
   have hs1 : T1.size = 1 := by rw [hT1]; rfl
   have HQ : PLift (T1 ++ ByteArray.mk (packF f (n / 128)).toArray = ByteArray.mk (packF (f + 1) n).toArray) := PLift.up (by rw [HP.down, hT1]; rfl)
   rw [← hT1]
   clear hT1
   go_wp2_with fail
   refine (IH.down _).mono ?_
   rintro e w2 ⟨rfl, hb2⟩
   have HB2 := PLift.up (HB.down.trans (hb2.mono hsz))
   clear hb2
   have hpl : (ByteArray.mk (packF f (n / 128)).toArray).size ≤ f + 1 := by show (packF f (n / 128)).toArray.size ≤ f + 1; simpa using hl
   generalize ByteArray.mk (packF f (n / 128)).toArray = T at *
   clear hl
   go_wp2_with fail
   go_returns
   exact ⟨congrArg (fun s => Ending.returned (.string s)) HQ.down, HB2.down⟩
def bC (l : List UInt8) : List Value := l.map fun b => .int .u8 (b.toNat : Int)
theorem or128 (m : Nat) : bits .or .u8 ((m : Int) % 256) 128 = ((128 + m % 128 : Nat) : Int) := by
 rw [Lib.u8_or128_any _ (by omega) (by omega)]; omega
set_option maxHeartbeats 1000000 in
set_option maxRecDepth 20000 in
theorem put_any (n : Nat) (h : n < 18446744073709551616) (w : World) :
 Calls Tryz.prog 145 #[.int .u64 n] w fun e w' => e = .returned (.string (packS n)) ∧ Below w.heap.size w w' := by
 go_enter Tryz.func145, Tryz.ntmps145
 go_wp2_with fail
 go_loopw [0, 3] (fun mv v wr => ∃ (m f : Nat) (done : List UInt8), mv = .int .u64 m ∧ m < 18446744073709551616 ∧ Hid (m < 128 ^ (f + 1) ∧ done ++ packF f m = packB n ∧ done.length + f = 9 ∧ wr.ownsRow w.heap.size 5 1 v done.length (bC done) ∧ Below w.heap.size w wr)) (fun mv _ _ => (intOf mv).toNat)
 case atStart => exact ⟨n, 9, [], rfl, h, by simpa using Nat.lt_of_lt_of_le h (by decide), rfl, rfl, ⟨by simp [bC], .inl ⟨rfl, rfl⟩⟩, Below.refl _ _⟩
 case round =>
  obtain ⟨m, f, done, rfl, hm, hI⟩ := hrel
  have hor := or128 m
  have hdl : done.length ≤ 9 := by have := hI.out.2.2.1; omega
  have hB := hI.out.2.2.2.2.size
  by_cases h8 : 128 ≤ m
  ·obtain ⟨f, rfl⟩ : ∃ f', f = f' + 1 := by
    cases f with
    | zero => have := hI.out.1; simp at this; omega
    | succ f => exact ⟨f, rfl⟩
   have HI := PLift.up hI.out
   clear hI
   go_wp2_with (at_builtin; refine wpApp _ rfl _ _ _ rfl w.heap.size _ _ _ elT_u8 _ done.length (bC done) rfl (HI.down.2.2.2.1.alloc _) (some ⟨wr.heap.size, 0, none⟩) 1 1 [.int .u8 ((128 + m % 128 : Nat) : Int)] rfl ?_ ?_ ?_ ?_ ?_ ?_ ?_ ?_)
   ·rfl
   ·simp
   ·intro ad had j u hu
    obtain rfl := Option.some.inj had
    match j, hu with
    | 0, hu => simp at hu; subst hu; simp [Addr.add_lit, go_sem]
    | j + 1, hu => simp at hu
   ·simp [Value.oneCell']
   ·simp only [maxLen]; omega
   ·omega
   ·simp; omega
   ·intro v' w2 hown hg _
    have hbb : Below w.heap.size w w2 := (HI.down.2.2.2.2.alloc (by omega) _).grown hg (by simp; omega) (fun q hq => (HI.down.2.2.2.1.lt q hq).1)
    have HO := PLift.up hown
    have HBB := PLift.up hbb
    clear hown hbb hg
    go_wp2_with fail
    go_roundw
    case rel =>
     have hp : packF (f + 1) m = UInt8.ofNat (128 + m % 128) :: packF f (m / 128) := by simp [packF]; omega
     refine ⟨m / 128, f, done ++ [UInt8.ofNat (128 + m % 128)], ?_, by omega, ?_, ?_, ?_, ?_, HBB.down⟩
     ·simp
     ·have := HI.down.1; rw [Nat.pow_succ] at this; exact Nat.div_lt_of_lt_mul (by omega)
     ·have := HI.down.2.1; rw [hp] at this; simpa using this
     ·have := HI.down.2.2.1; simp; omega
     ·have := HO.down
      have e : bC (done ++ [UInt8.ofNat (128 + m % 128)]) = bC done ++ [.int .u8 ((128 + m % 128 : Nat) : Int)] := by
       simp only [bC, List.map_append, List.map_cons, List.map_nil]
       rw [u8_ofNat_toNat _ (by omega)]
      rw [e]; simpa using this
    case measure => simp [intOf]; omega
  ·have HI := PLift.up hI.out
   clear hI
   go_wp2_with (at_builtin; refine wpApp _ rfl _ _ _ rfl w.heap.size _ _ _ elT_u8 _ done.length (bC done) rfl (HI.down.2.2.2.1.alloc _) (some ⟨wr.heap.size, 0, none⟩) 1 1 [.int .u8 (m : Int)] rfl ?_ ?_ ?_ ?_ ?_ ?_ ?_ ?_)
   ·rfl
   ·simp
   ·intro ad had j u hu
    obtain rfl := Option.some.inj had
    match j, hu with
    | 0, hu => simp at hu; subst hu; simp [Addr.add_lit, go_sem]
    | j + 1, hu => simp at hu
   ·simp [Value.oneCell']
   ·simp only [maxLen]; omega
   ·omega
   ·simp; omega
   ·intro v' w2 hown hg _
    have hbb : Below w.heap.size w w2 := (HI.down.2.2.2.2.alloc (by omega) _).grown hg (by simp; omega) (fun q hq => (HI.down.2.2.2.1.lt q hq).1)
    have hfin : done ++ [UInt8.ofNat m] = packB n := by have := HI.down.2.1; rw [packF_small f m (by omega)] at this; exact this
    have e : bC done ++ [.int .u8 (m : Int)] = bC (packB n) := by
     rw [← hfin]
     simp only [bC, List.map_append, List.map_cons, List.map_nil]
     rw [u8_ofNat_toNat _ (by omega)]
    have hlen : done.length + 1 = (packB n).length := by rw [← hfin]; simp
    rw [e, hlen] at hown
    rcases hown.2 with ⟨_, h0⟩ | ⟨g, cap, cur, rfl, _, hgc, _⟩
    ·omega
    have hcell := hown.cells (g := g) rfl
    have hcv := run_convert_bytes_back (P := Tryz.prog) w2 207 9 5 ⟨g, 0, none⟩ cap (packB n) Tryz.underlying207 Tryz.underlying5 Tryz.underlying9 (by
     intro j hj
     exact hcell j _ (by simp only [bC, List.getElem?_map, List.getElem?_eq_getElem hj, Option.map_some]))
    have HBB := PLift.up hbb
    clear hown hbb hg hcell e hfin HI hgc
    generalize hq : (packB n).length = q at *
    clear hlen hdl hB
    go_wp2_with fail
    go_returns
    exact ⟨rfl, HBB.down⟩
end Go.Proofs.YthiddmncjafklaaGreat
namespace Go.Proofs.YthiddmncjafklaaGreat
set_option linter.all false
open Go.RowKit
def vals (l : List UInt8) : Nat := l.foldr (fun b a => b.toNat % 128 + 128 * a) 0
theorem vals_append (l k : List UInt8) : vals (l ++ k) = vals l + 128 ^ l.length * vals k := by
 induction l with
 | nil => simp [vals]
 | cons b l ih =>
  have e : vals (b :: l ++ k) = b.toNat % 128 + 128 * vals (l ++ k) := rfl
  have e2 : vals (b :: l) = b.toNat % 128 + 128 * vals l := rfl
  rw [e, e2, ih, List.length_cons, Nat.pow_succ, Nat.mul_add, Nat.mul_comm (128 ^ l.length) 128, Nat.mul_assoc]; omega
theorem vals_lt (l : List UInt8) : vals l < 128 ^ l.length := by
 induction l with
 | nil => simp [vals]
 | cons b l ih =>
  have e2 : vals (b :: l) = b.toNat % 128 + 128 * vals l := rfl
  rw [e2, List.length_cons, Nat.pow_succ]; omega
def valT (s : ByteArray) (i : Nat) : Nat := vals (s.data.toList.take i) % 18446744073709551616
def getR (s : ByteArray) : Nat × ByteArray × Int :=
 match s.data.toList.findIdx? (fun b => b < 128) with
 | some i => if i < 10 ∧ packS (valT s (i + 1)) = s.extract 0 (i + 1) then (valT s (i + 1), s.extract (i + 1) s.size, 0) else (0, ⟨#[]⟩, 4)
 | none => (0, ⟨#[]⟩, if s.size < 10 then 3 else 4)
def Hits (s : ByteArray) (i : Nat) : Prop := ∃ h : i < s.size, s[i].toNat < 128 ∧ ∀ j (hj : j < i), 128 ≤ (s[j]'(by omega)).toNat
theorem getD_byte (s : ByteArray) (i : Nat) (h : i < s.size) : s.data.toList[i]'(by simpa using h) = s[i] := rfl
theorem cases_hit (s : ByteArray) : (∃ i, Hits s i ∧ s.data.toList.findIdx? (fun b => b < 128) = some i) ∨ ((∀ j (hj : j < s.size), 128 ≤ s[j].toNat) ∧ s.data.toList.findIdx? (fun b => b < 128) = none) := by
 cases h : s.data.toList.findIdx? (fun b => b < 128) with
 | some i =>
  refine .inl ⟨i, ?_, rfl⟩
  rw [List.findIdx?_eq_some_iff_getElem] at h
  obtain ⟨hi, h1, h2⟩ := h
  refine ⟨by simpa using hi, ?_, fun j hj => ?_⟩
  ·have h1' : (s.data[i]'(by simpa using hi)).toNat < 128 := by simpa [UInt8.lt_iff_toNat_lt] using h1
   exact h1'
  ·have := h2 j hj
   have hi' : i < s.data.size := by simpa using hi
   have h2' : 128 ≤ (s.data[j]'(by omega)).toNat := by simpa [UInt8.lt_iff_toNat_lt] using this
   exact h2'
 | none =>
  refine .inr ⟨fun j hj => ?_, rfl⟩
  rw [List.findIdx?_eq_none_iff] at h
  have := h s[j] (by rw [← getD_byte s j hj]; exact List.getElem_mem _)
  simpa [UInt8.lt_iff_toNat_lt] using this
theorem valT_zero (s : ByteArray) : valT s 0 = 0 := rfl
theorem valT_succ (s : ByteArray) (i : Nat) (h : i < s.size) (h9 : i < 10) : valT s (i + 1) = valT s i + s[i].toNat % 128 * 128 ^ i % 18446744073709551616 ∧ valT s i < 128 ^ i ∧ 128 ^ i * 2 ≤ 18446744073709551616 := by
 unfold valT
 rw [bytes_snoc s i h, vals_append]
 have hl : (s.data.toList.take i).length = i := by simp; omega
 have hv := vals_lt (s.data.toList.take i)
 rw [hl] at hv ⊢
 have e : vals [s[i]] = s[i].toNat % 128 := by simp [vals]
 rw [e]
 have hp : 128 ^ i * 2 ≤ 18446744073709551616 := by
  have : 128 ^ i ≤ 128 ^ 9 := Nat.pow_le_pow_right (by decide) (by omega)
  omega
 generalize vals (s.data.toList.take i) = v at *
 have hm : v % 18446744073709551616 = v := Nat.mod_eq_of_lt (by omega)
 rw [hm]
 refine ⟨?_, hv, hp⟩
 rw [Nat.mul_comm (128 ^ i)]
 generalize s[i].toNat % 128 = x at *
 have hdv : ∃ q, 18446744073709551616 = 128 ^ i * q := by
  refine ⟨2 ^ (64 - 7 * i), ?_⟩
  rw [show (128 : Nat) = 2 ^ 7 from rfl, ← Nat.pow_mul, ← Nat.pow_add, show 7 * i + (64 - 7 * i) = 64 from by omega]
 obtain ⟨q, hq⟩ := hdv
 rw [hq, Nat.mul_comm x, Nat.mul_mod_mul_left, Nat.add_mod, Nat.mul_mod_mul_left, Nat.mod_eq_of_lt (show v < 128 ^ i * q from by rw [← hq]; omega)]
 have hq0 : 0 < q := by rcases Nat.eq_zero_or_pos q with rfl | h0; · simp at hq
                        ·exact h0
 have hxq : x % q < q := Nat.mod_lt _ hq0
 apply Nat.mod_eq_of_lt
 have : 128 ^ i * (x % q) + 128 ^ i ≤ 128 ^ i * q := by rw [← Nat.mul_succ]; exact Nat.mul_le_mul_left _ hxq
 omega
theorem getR_hit {s : ByteArray} {i : Nat} (h : s.data.toList.findIdx? (fun b => b < 128) = some i) : getR s = if i < 10 ∧ packS (valT s (i + 1)) = s.extract 0 (i + 1) then (valT s (i + 1), s.extract (i + 1) s.size, 0) else (0, ⟨#[]⟩, 4) := by simp [getR, h]
theorem getR_none {s : ByteArray} (h : s.data.toList.findIdx? (fun b => b < 128) = none) : getR s = (0, ⟨#[]⟩, if s.size < 10 then 3 else 4) := by simp [getR, h]
structure Ends (s : ByteArray) (e : Nat) (r : Nat × ByteArray × Int) : Prop where
 le : e ≤ s.size
 big : ∀ j (hj : j < s.size), j < e → 128 ≤ s[j].toNat
 small : ∀ (h : e < s.size), s[e].toNat < 128
 res : getR s = r
theorem ends_any (s : ByteArray) : ∃ e r, Ends s e r ∧ (e < s.size → r = if e < 10 ∧ packS (valT s (e + 1)) = s.extract 0 (e + 1) then (valT s (e + 1), s.extract (e + 1) s.size, 0) else (0, ⟨#[]⟩, 4)) ∧ (e = s.size → r = (0, ⟨#[]⟩, if s.size < 10 then 3 else 4)) := by
 rcases cases_hit s with ⟨i, ⟨h1, h2, h3⟩, h4⟩ | ⟨h1, h2⟩
 ·exact ⟨i, _, ⟨by omega, fun j _ hj => h3 j hj, fun _ => h2, rfl⟩, fun _ => getR_hit h4, fun h => by omega⟩
 ·exact ⟨s.size, _, ⟨Nat.le_refl _, fun j hj _ => h1 j hj, fun h => absurd h (Nat.lt_irrefl _), rfl⟩, fun h => absurd h (Nat.lt_irrefl _), fun _ => getR_none h2⟩
set_option maxHeartbeats 2000000 in
set_option maxRecDepth 20000 in
theorem get_any (s : ByteArray) (w : World) (hs : s.size ≤ 140737488351232) :
 Calls Tryz.prog 118 #[.string s] w fun e w' => e = .returned (.tuple #[.int .u64 (getR s).1, .string (getR s).2.1, .int .i64 (getR s).2.2]) ∧ Below w.heap.size w w' := by
 obtain ⟨e, r, hE, hr1, hr2⟩ := ends_any s
 rw [hE.res]
 have HE := PLift.up hE
 have HR1 := PLift.up hr1
 have HR2 := PLift.up hr2
 have hle := hE.le
 clear hE hr1 hr2
 go_enter Tryz.func118, Tryz.ntmps118
 go_wp2_with fail
 go_loop [5, 6] (fun nv iv => ∃ k : Nat, k ≤ e ∧ k ≤ 10 ∧ iv = .int .i64 k ∧ nv = .int .u64 (valT s k)) (fun _ iv => 10 - (intOf iv).toNat)
 case atStart => exact ⟨0, by omega, by omega, rfl, by rw [valT_zero]; rfl⟩
 case round =>
  obtain ⟨k, hk, hk10, rfl, rfl⟩ := hrel
  by_cases hlt : k < 10
  ·by_cases hks : k < s.size
   ·obtain ⟨hv1, hv2, hv3⟩ := valT_succ s k hks hlt
    have hb : k < e → 128 ≤ s[k].toNat := fun h => HE.down.big k hks h
    have hsm : ¬ k < e → s[k].toNat < 128 := (fun h => by
     obtain rfl : k = e := by omega
     exact HE.down.small hks)
    have hx := UInt8.toNat_lt s[k]
    have hn : bits .or .u64 (valT s k : Nat) (IntKind.u64.wrap (IntKind.u64.wrap (bits .and .u8 (s[k].toNat : Int) 127) * 2 ^ (7 * k))) = ((valT s (k + 1) : Nat) : Int) := by
     rw [u8_and127 _ (by omega) (by omega), IntKind.wrap_u64, IntKind.wrap_u64, hv1]
     have e1 : ((s[k].toNat : Int) % 128 % 18446744073709551616) = ((s[k].toNat % 128 : Nat) : Int) := by omega
     have e2 : ((2 : Int) ^ (7 * k)) = ((128 ^ k : Nat) : Int) := by rw [show (128 : Nat) ^ k = 2 ^ (7 * k) from by rw [Nat.pow_mul]]; simp
     rw [e1, e2, ← Int.natCast_mul]
     have e3 : ((s[k].toNat % 128 * 128 ^ k : Nat) : Int) % 18446744073709551616 = ((s[k].toNat % 128 * 128 ^ k % 18446744073709551616 : Nat) : Int) := by omega
     rw [e3, u64_or_nat _ _ (by omega) (by omega)]
     congr 1
     rw [Nat.or_comm, nat_join (7 * k) _ _ ?_ ?_, Nat.add_comm]
     ·rw [show (2 : Nat) ^ (7 * k) = 128 ^ k from by rw [Nat.pow_mul]]
      have hd : 128 ^ k ∣ 18446744073709551616 := by
       refine ⟨2 ^ (64 - 7 * k), ?_⟩
       rw [show (128 : Nat) = 2 ^ 7 from rfl, ← Nat.pow_mul, ← Nat.pow_add, show 7 * k + (64 - 7 * k) = 64 from by omega]
      rw [Nat.mod_mod_of_dvd _ hd]; exact Nat.mul_mod_left _ _
     ·rw [show (2 : Nat) ^ (7 * k) = 128 ^ k from by rw [Nat.pow_mul]]; exact hv2
    have hvl : valT s (k + 1) < 18446744073709551616 := Nat.mod_lt _ (by decide)
    clear hv1 hv2 hv3
    by_cases hke : k < e
    ·have hbx := hb hke
     clear hb hsm
     go_wp2_with fail
     go_round
     case rel => exact ⟨k + 1, by omega, by omega, by go_num, rfl⟩
     case measure => simp [intOf]; omega
    ·have hsx := hsm hke
     obtain rfl : k = e := by omega
     clear hb hsm
     have hr := HR1.down hks
     have k0 : (0 : Int) ≤ (k : Int) + 1 := by omega
     have k1 : (k : Int) + 1 ≤ (s.size : Int) := by omega
     have k2 : IntKind.i64.wrap ((k : Int) + 1) = (k : Int) + 1 := IntWalk.i64_in _ (by omega)
     have k3 : ((k : Int) + 1).toNat = k + 1 := by omega
     by_cases hq : packS (valT s (k + 1)) = s.extract 0 (k + 1)
     ·rw [if_pos ⟨hlt, hq⟩] at hr
      subst hr
      have P := PLift.up (fun w => put_any (valT s (k + 1)) hvl w)
      rw [hq] at P
      clear hq
      go_wp2_with fail
      go_region_held3 (fun _ => True) (trivial) (first | (go_at_call 145; refine (P.down _).mono ?_; rintro e w1 ⟨rfl, hb1⟩; have HB1 := PLift.up hb1; clear hb1))
      all_goals go_wp2_with fail
      all_goals (go_quiet (fail))
      all_goals go_wp2_with fail
      all_goals go_returns
      all_goals refine ⟨?_, ((Below.refl _ _).drew.trans HB1.down).drewn _⟩
      all_goals (simp; done)
     ·rw [if_neg (fun h => hq h.2)] at hr
      subst hr
      have P := PLift.up (fun w => put_any (valT s (k + 1)) hvl w)
      generalize packS (valT s (k + 1)) = T at *
      have hne := str_ne hq
      clear hq
      go_wp2_with fail
      go_region_held3 (fun _ => True) (trivial) (first | (go_at_call 145; refine (P.down _).mono ?_; rintro e w1 ⟨rfl, hb1⟩; have HB1 := PLift.up hb1; clear hb1))
      all_goals go_wp2_with fail
      all_goals go_returns
      all_goals refine ⟨?_, (Below.refl _ _).drew.trans HB1.down⟩
      all_goals (simp; done)
   ·have hr := HR2.down (by omega)
    have hif : (if s.size < 10 then (3 : Int) else 4) = 3 := if_pos (by omega)
    rw [hif] at hr
    subst hr
    go_wp2_with fail
    go_returns
    exact ⟨rfl, Below.refl _ _⟩
  ·by_cases hks : k < s.size
   ·have hr : r = (0, ⟨#[]⟩, 4) := by
     by_cases he : e < s.size
     ·rw [HR1.down he, if_neg (by omega)]
     ·rw [HR2.down (by omega), if_neg (by omega)]
    subst hr
    go_wp2_with fail
    go_returns
    exact ⟨rfl, Below.refl _ _⟩
   ·have hr := HR2.down (by omega)
    have hif : (if s.size < 10 then (3 : Int) else 4) = 4 := if_neg (by omega)
    rw [hif] at hr
    subst hr
    go_wp2_with fail
    go_returns
    exact ⟨rfl, Below.refl _ _⟩
end Go.Proofs.YthiddmncjafklaaGreat
namespace Go.Proofs.YthiddmncjafklaaGreat
set_option linter.all false
open Go.RowKit
theorem packedS_any (n : Nat) (w : World) (h : n < 18446744073709551616) :
 Calls Tryz.prog 150 #[.int .u64 n] w fun e w' => e = .returned (.string (packS n)) ∧ Below w.heap.size w w' := packed_any 9 (Nat.le_refl _) n w h (Nat.lt_of_lt_of_le h (by decide))
def valD (s : ByteArray) (k m : Nat) : Nat := vals ((s.data.toList.take m).drop k) % 18446744073709551616
theorem valD_end (s : ByteArray) (m : Nat) : valD s m m = 0 := by
 unfold valD; rw [List.drop_of_length_le (by simp; omega)]; rfl
theorem valD_zero (s : ByteArray) (m : Nat) : valD s 0 m = valT s m := rfl
theorem valD_step (s : ByteArray) (k m : Nat) (h : k < m) (hm : m ≤ s.size) : valD s k m = (128 * valD s (k + 1) m + (s[k]'(by omega)).toNat % 128) % 18446744073709551616 := by
 unfold valD
 have hl : k < (s.data.toList.take m).length := by simp; omega
 rw [List.drop_eq_getElem_cons hl]
 have e : (s.data.toList.take m)[k] = s[k]'(by omega) := by rw [List.getElem_take]; rfl
 rw [e]
 have e2 : vals (s[k]'(by omega) :: (s.data.toList.take m).drop (k + 1)) = (s[k]'(by omega)).toNat % 128 + 128 * vals ((s.data.toList.take m).drop (k + 1)) := rfl
 rw [e2]; omega
set_option maxHeartbeats 2000000 in
set_option maxRecDepth 20000 in
theorem unpacked_any (s : ByteArray) (w : World) (hs : s.size ≤ 140737488351232) :
 Calls Tryz.prog 122 #[.string s] w fun e w' => e = .returned (.tuple #[.int .u64 (getR s).1, .string (getR s).2.1, .int .i64 (getR s).2.2]) ∧ Below w.heap.size w w' := by
 obtain ⟨e, r, hE, hr1, hr2⟩ := ends_any s
 rw [hE.res]
 have HE := PLift.up hE
 have HR1 := PLift.up hr1
 have HR2 := PLift.up hr2
 have hle := hE.le
 clear hE hr1 hr2
 go_enter Tryz.func122, Tryz.ntmps122
 go_wp2_with fail
 go_loop [5, 11] (fun ev iv => ∃ k : Nat, k ≤ e ∧ iv = .int .i64 k ∧ ev = .int .i64 (-1)) (fun _ iv => s.size - (intOf iv).toNat)
 case atStart => exact ⟨0, by omega, rfl, rfl⟩
 case round =>
  obtain ⟨k, hk, rfl, rfl⟩ := hrel
  by_cases hks : k < s.size
  ·by_cases hke : k < e
   ·have hb := HE.down.big k hks hke
    go_wp2_with fail
    go_round
    case rel => exact ⟨k + 1, by omega, by go_num, rfl⟩
    case measure => simp [intOf]; omega
   ·obtain rfl : k = e := by omega
    have hsm := HE.down.small hks
    by_cases h10 : k < 10
    ·go_wp2_with fail
     all_goals
      go_loop [7, 8] (fun nv iv => ∃ (j : Nat) (z : Int), j ≤ k + 1 ∧ iv = .int .i64 z ∧ -1 ≤ z ∧ z < k + 1 ∧ nv = .int .u64 (valD s j (k + 1)) ∧ Hid (z = (j : Int) - 1)) (fun _ iv => (intOf iv + 1).toNat)
      case atStart => exact ⟨k + 1, k, by omega, rfl, by omega, by omega, by rw [valD_end]; rfl, by show _ = _; omega⟩
      case round =>
       obtain ⟨j, z, hj, rfl, hz1, hz2, rfl, hz⟩ := hrel
       by_cases h0 : 0 ≤ z
       ·obtain ⟨i, rfl⟩ : ∃ i : Nat, z = i := ⟨z.toNat, by omega⟩
        obtain rfl : j = i + 1 := by have := hz.out; omega
        have hst := valD_step s i (k + 1) (by omega) (by omega)
        have hV : valD s (i + 1) (k + 1) < 18446744073709551616 := Nat.mod_lt _ (by decide)
        have HST := PLift.up hst
        clear hst hz
        generalize valD s (i + 1) (k + 1) = V at *
        go_wp2_with fail
        go_round
        case rel =>
         refine ⟨i, (i : Int) - 1, by omega, rfl, by omega, by omega, ?_, rfl⟩
         rw [HST.down]
         have hx := UInt8.toNat_lt s[i]
         have e1 : IntKind.u64.wrap (s[i].toNat : Int) = s[i].toNat := by rw [IntKind.wrap_u64]; omega
         rw [e1, Int.tmod_eq_emod_of_nonneg (by omega), IntKind.wrap_u64, IntKind.wrap_u64]
         congr 1; omega
        case measure => simp [intOf]
       ·obtain rfl : z = -1 := by omega
        obtain rfl : j = 0 := by have := hz.out; omega
        rw [valD_zero]
        have hr := HR1.down hks
        have hvl : valT s (k + 1) < 18446744073709551616 := Nat.mod_lt _ (by decide)
        have k0 : (0 : Int) ≤ (k : Int) + 1 := by omega
        have k1 : (k : Int) + 1 ≤ (s.size : Int) := by omega
        have k2 : IntKind.i64.wrap ((k : Int) + 1) = (k : Int) + 1 := IntWalk.i64_in _ (by omega)
        have k3 : ((k : Int) + 1).toNat = k + 1 := by omega
        by_cases hq : packS (valT s (k + 1)) = s.extract 0 (k + 1)
        ·rw [if_pos ⟨h10, hq⟩] at hr
         subst hr
         have P := PLift.up (fun w => packedS_any (valT s (k + 1)) w hvl)
         rw [hq] at P
         clear hq
         go_wp2_with fail
         go_region_held3 (fun _ => True) (trivial) (first | (go_at_call 150; refine (P.down _).mono ?_; rintro e w1 ⟨rfl, hb1⟩; have HB1 := PLift.up hb1; clear hb1))
         all_goals go_wp2_with fail
         all_goals (go_quiet (fail))
         all_goals go_wp2_with fail
         all_goals go_returns
         all_goals refine ⟨?_, ((Below.refl _ _).drew.trans HB1.down).drewn _⟩
         all_goals (simp; done)
        ·rw [if_neg (fun h => hq h.2)] at hr
         subst hr
         have P := PLift.up (fun w => packedS_any (valT s (k + 1)) w hvl)
         generalize packS (valT s (k + 1)) = T at *
         have hne := str_ne hq
         clear hq
         go_wp2_with fail
         go_region_held3 (fun _ => True) (trivial) (first | (go_at_call 150; refine (P.down _).mono ?_; rintro e w1 ⟨rfl, hb1⟩; have HB1 := PLift.up hb1; clear hb1))
         all_goals go_wp2_with fail
         all_goals go_returns
         all_goals refine ⟨?_, (Below.refl _ _).drew.trans HB1.down⟩
         all_goals (simp; done)
    ·have hr : r = (0, ⟨#[]⟩, 4) := by rw [HR1.down hks, if_neg (by omega)]
     subst hr
     go_wp2_with fail
     go_returns
     exact ⟨rfl, Below.refl _ _⟩
  ·have hr := HR2.down (by omega)
   by_cases h10 : s.size < 10
   ·rw [if_pos h10] at hr
    subst hr
    go_wp2_with fail
    go_returns
    exact ⟨rfl, Below.refl _ _⟩
   ·rw [if_neg h10] at hr
    subst hr
    go_wp2_with fail
    go_returns
    exact ⟨rfl, Below.refl _ _⟩
end Go.Proofs.YthiddmncjafklaaGreat
namespace Go.Proofs.YthiddmncjafklaaGreat
set_option linter.all false
open Go.RowKit
def gaF : Nat → ByteArray → List Int → List Int × Int
 | 0, s, out => if s = ⟨#[]⟩ then (out, 0) else ([], 4)
 | n + 1, s, out => if (getR s).2.2 = 0 then gaF n (getR s).2.1 (out ++ [unfN (getR s).1]) else ([], (getR s).2.2)
def gaR (s : ByteArray) : List Int × Int :=
 if (getR s).2.2 = 0 then (if (getR s).1 ≤ 1000 then gaF (getR s).1 (getR s).2.1 [] else ([], 2)) else ([], (getR s).2.2)
theorem getR_lt (s : ByteArray) : (getR s).1 < 18446744073709551616 ∧ (getR s).2.1.size ≤ s.size ∧ 0 ≤ (getR s).2.2 ∧ (getR s).2.2 ≤ 4 := by
 obtain ⟨e, r, hE, h1, h2⟩ := ends_any s
 rw [hE.res]
 have hle := hE.le
 by_cases he : e < s.size
 ·rw [h1 he]
  split
  ·refine ⟨Nat.mod_lt _ (by decide), ?_, by simp, by simp⟩
   simp only [ByteArray.size_extract]; omega
  ·exact ⟨by decide, Nat.zero_le _, by simp, by simp⟩
 ·rw [h2 (by omega)]
  refine ⟨by simp, Nat.zero_le _, ?_, ?_⟩ <;> (simp only; split <;> omega)
theorem str_empty (s : ByteArray) : (s = ⟨#[]⟩) ↔ s.toList = [] := by
 rw [ByteArray.toList_eq]
 constructor
 ·rintro rfl; rfl
 ·intro h; obtain ⟨⟨l⟩⟩ := s; simp at h; subst h; rfl
set_option maxHeartbeats 2000000 in
set_option maxRecDepth 20000 in
theorem getAll_any (s : ByteArray) (w : World) (hs : s.size ≤ 140737488351232) :
 Calls Tryz.prog 74 #[.string s] w fun e w' => (∃ v, e = .returned (.tuple #[v, .int .i64 (gaR s).2]) ∧ ∃ n, w'.ownsRow w.heap.size 3 1 v n ((gaR s).1.flatMap ei64)) ∧ Below w.heap.size w w' := by
 have P := PLift.up (get_any s w hs)
 have hgl := getR_lt s
 obtain ⟨r, hr⟩ : ∃ r, r = gaR s := ⟨_, rfl⟩
 rw [← hr]
 unfold gaR at hr
 obtain ⟨R, hR⟩ : ∃ R, R = getR s := ⟨_, rfl⟩
 rw [← hR] at P hgl hr
 obtain ⟨n, s1, e1⟩ := R
 simp only at P hgl hr
 clear hR
 by_cases h0 : e1 = 0
 ·subst h0
  rw [if_pos rfl] at hr
  by_cases hn : n ≤ 1000
  ·rw [if_pos hn] at hr
   have HR := PLift.up hr
   clear hr
   go_enter Tryz.func74, Tryz.ntmps74
   go_wp2_with fail
   refine P.down.mono ?_
   rintro e w1 ⟨rfl, hb1⟩
   have B1 := PLift.up hb1
   clear hb1 P
   go_wp2_with fail
   go_loopw [0, 6, 24] (fun sv v iv wr => ∃ (k : Nat) (t : ByteArray) (out : List Int), k ≤ n ∧ iv = .int .u64 k ∧ sv = .string t ∧ t.size ≤ 140737488351232 ∧ Hid (gaF (n - k) t out = gaF n s1 [] ∧ wr.ownsRow w.heap.size 3 1 v k (out.flatMap ei64) ∧ Below w.heap.size w wr)) (fun _ _ iv _ => n - (intOf iv).toNat)
   case atStart => exact ⟨0, s1, [], by omega, rfl, rfl, by omega, rfl, ⟨by simp, .inl ⟨rfl, rfl⟩⟩, B1.down⟩
   case round =>
    obtain ⟨k, t, out, hk, rfl, rfl, ht, hI⟩ := hrel
    have hB := hI.out.2.2.size
    by_cases hlt : k < n
    ·have Q := PLift.up (get_any t wr ht)
     have hql := getR_lt t
     have hst : gaF (n - k) t out = if (getR t).2.2 = 0 then gaF (n - (k + 1)) (getR t).2.1 (out ++ [unfN (getR t).1]) else ([], (getR t).2.2) := by
      rw [show n - k = (n - (k + 1)) + 1 from by omega]; rfl
     obtain ⟨R2, hR2⟩ : ∃ R, R = getR t := ⟨_, rfl⟩
     rw [← hR2] at Q hql hst
     obtain ⟨x, t', e2⟩ := R2
     simp only at Q hql hst
     clear hR2
     have HI := PLift.up hI.out
     clear hI
     by_cases h2 : e2 = 0
     ·subst h2
      rw [if_pos rfl] at hst
      have HST := PLift.up hst
      clear hst
      go_wp2_with fail
      refine Q.down.mono ?_
      rintro e w2 ⟨rfl, hb2⟩
      have HO2 := PLift.up (own_below HI.down.2.1 hb2)
      have B2 := PLift.up (HI.down.2.2.trans (hb2.mono hB))
      have hB2 := B2.down.size
      clear hb2 Q
      go_wp2_with fail
      refine (unfold_any x hql.1 _).mono ?_
      rintro e w2 ⟨rfl, rfl⟩
      generalize hu : unfN x = u
      have HU := PLift.up hu
      clear hu
      go_wp2_with (at_builtin; refine wpApp _ rfl _ _ _ rfl w.heap.size _ _ _ elT_i64 _ k (out.flatMap ei64) rfl (HO2.down.alloc _) (some ⟨w2.heap.size, 0, none⟩) 1 1 [.int .i64 u] rfl ?_ ?_ ?_ ?_ ?_ ?_ ?_ ?_)
      ·rfl
      ·simp
      ·intro ad had j y hy
       obtain rfl := Option.some.inj had
       match j, hy with
       | 0, hy => simp at hy; subst hy; simp [Addr.add_lit, go_sem]
       | j + 1, hy => simp at hy
      ·simp [Value.oneCell']
      ·simp only [maxLen]; omega
      ·omega
      ·simp; omega
      ·intro v' w3 hown hg _
       have hbb : Below w.heap.size w w3 := (B2.down.alloc (by omega) _).grown hg (by simp; omega) (fun q hq => (HO2.down.lt q hq).1)
       obtain ⟨a', c', rfl⟩ := own_slice hown
       have HO := PLift.up hown
       have HBB := PLift.up hbb
       clear hown hbb hg
       go_wp2_with fail
       go_roundw
       case rel =>
        refine ⟨k + 1, t', out ++ [unfN x], by omega, by go_num, rfl, by omega, ?_, ?_, HBB.down⟩
        ·rw [← HST.down]; exact HI.down.1
        ·rw [List.flatMap_append, HU.down]; exact HO.down
       case measure => simp [intOf]; omega
     ·rw [if_neg h2] at hst
      have hr2 := (hst.symm.trans HI.down.1).trans HR.down.symm
      have z1 : (e2 != 0) = true := by simpa using h2
      have z2 : (e2 == 0) = false := by simpa using h2
      subst hr2
      have B1W := PLift.up HI.down.2.2
      clear hst HR HI h2
      go_wp2_with fail
      refine Q.down.mono ?_
      rintro e w2 ⟨rfl, hb2⟩
      have HI2 := PLift.up (B1W.down.trans (hb2.mono hB))
      clear hb2 Q
      go_wp2_with fail
      go_returns
      exact ⟨⟨_, rfl, 0, ⟨by simp, .inl ⟨rfl, rfl⟩⟩⟩, HI2.down⟩
    ·obtain rfl : k = n := by omega
     have hz := hI.out.1
     rw [Nat.sub_self] at hz
     have hz2 : gaF 0 t out = if t = ⟨#[]⟩ then (out, 0) else ([], 4) := rfl
     rw [hz2] at hz
     have HI := PLift.up hI.out
     clear hI hz2
     by_cases ht0 : t = ⟨#[]⟩
     ·rw [if_pos ht0] at hz
      have hr2 := hz.trans HR.down.symm
      subst hr2 ht0
      clear HR
      go_wp2_with fail
      go_returns
      exact ⟨⟨_, rfl, _, HI.down.2.1⟩, HI.down.2.2⟩
     ·rw [if_neg ht0] at hz
      have hr2 := hz.trans HR.down.symm
      subst hr2
      clear HR
      have hte : t.toList.isEmpty = false := by
       cases h : t.toList with
       | nil => exact absurd ((str_empty t).2 h) ht0
       | cons x l => rfl
      have hte2 : ¬ t.toList = [] := fun h => ht0 ((str_empty t).2 h)
      clear ht0
      go_wp2_with fail
      go_returns
      exact ⟨⟨_, rfl, 0, ⟨by simp, .inl ⟨rfl, rfl⟩⟩⟩, HI.down.2.2⟩
  ·rw [if_neg hn] at hr
   subst hr
   go_enter Tryz.func74, Tryz.ntmps74
   go_wp2_with fail
   refine P.down.mono ?_
   rintro e w1 ⟨rfl, hb1⟩
   have B1 := PLift.up hb1
   clear hb1 P
   go_wp2_with fail
   go_returns
   exact ⟨⟨_, rfl, 0, ⟨by simp, .inl ⟨rfl, rfl⟩⟩⟩, B1.down⟩
 ·rw [if_neg h0] at hr
  have z1 : (e1 != 0) = true := by simpa using h0
  have z2 : (e1 == 0) = false := by simpa using h0
  subst hr
  clear h0
  go_enter Tryz.func74, Tryz.ntmps74
  go_wp2_with fail
  refine P.down.mono ?_
  rintro e w1 ⟨rfl, hb1⟩
  have B1 := PLift.up hb1
  clear hb1 P
  go_wp2_with fail
  go_returns
  exact ⟨⟨_, rfl, 0, ⟨by simp, .inl ⟨rfl, rfl⟩⟩⟩, B1.down⟩
set_option maxHeartbeats 2000000 in
set_option maxRecDepth 20000 in
theorem unpackedAll_any (s : ByteArray) (w : World) (hs : s.size ≤ 140737488351232) :
 Calls Tryz.prog 79 #[.string s] w fun e w' => (∃ v, e = .returned (.tuple #[v, .int .i64 (gaR s).2]) ∧ ∃ n, w'.ownsRow w.heap.size 3 1 v n ((gaR s).1.flatMap ei64)) ∧ Below w.heap.size w w' := by
 have P := PLift.up (unpacked_any s w hs)
 have hgl := getR_lt s
 obtain ⟨r, hr⟩ : ∃ r, r = gaR s := ⟨_, rfl⟩
 rw [← hr]
 unfold gaR at hr
 obtain ⟨R, hR⟩ : ∃ R, R = getR s := ⟨_, rfl⟩
 rw [← hR] at P hgl hr
 obtain ⟨n, s1, e1⟩ := R
 simp only at P hgl hr
 clear hR
 by_cases h0 : e1 = 0
 ·subst h0
  rw [if_pos rfl] at hr
  by_cases hn : n ≤ 1000
  ·rw [if_pos hn] at hr
   have HR := PLift.up hr
   clear hr
   go_enter Tryz.func79, Tryz.ntmps79
   go_wp2_with fail
   refine P.down.mono ?_
   rintro e w1 ⟨rfl, hb1⟩
   have B1 := PLift.up hb1
   clear hb1 P
   go_wp2_with fail
   go_loopw [5, 7] (fun sv v wr => ∃ (k : Nat) (t : ByteArray) (out : List Int) (a : Option Addr) (c : Nat), k ≤ n ∧ v = .slice a k c ∧ sv = .string t ∧ t.size ≤ 140737488351232 ∧ Hid (gaF (n - k) t out = gaF n s1 [] ∧ wr.ownsRow w.heap.size 3 1 (.slice a k c) k (out.flatMap ei64) ∧ Below w.heap.size w wr)) (fun _ v _ => n - slLen v)
   case atStart => exact ⟨0, s1, [], none, 0, by omega, rfl, rfl, by omega, rfl, ⟨by simp, .inl ⟨rfl, rfl⟩⟩, B1.down⟩
   case round =>
    obtain ⟨k, t, out, a, c, hk, rfl, rfl, ht, hI⟩ := hrel
    have hB := hI.out.2.2.size
    by_cases hlt : k < n
    ·have Q := PLift.up (unpacked_any t wr ht)
     have hql := getR_lt t
     have hst : gaF (n - k) t out = if (getR t).2.2 = 0 then gaF (n - (k + 1)) (getR t).2.1 (out ++ [unfN (getR t).1]) else ([], (getR t).2.2) := by
      rw [show n - k = (n - (k + 1)) + 1 from by omega]; rfl
     obtain ⟨R2, hR2⟩ : ∃ R, R = getR t := ⟨_, rfl⟩
     rw [← hR2] at Q hql hst
     obtain ⟨x, t', e2⟩ := R2
     simp only at Q hql hst
     clear hR2
     have HI := PLift.up hI.out
     clear hI
     by_cases h2 : e2 = 0
     ·subst h2
      rw [if_pos rfl] at hst
      have HST := PLift.up hst
      clear hst
      go_wp2_with fail
      refine Q.down.mono ?_
      rintro e w2 ⟨rfl, hb2⟩
      have HO2 := PLift.up (own_below HI.down.2.1 hb2)
      have B2 := PLift.up (HI.down.2.2.trans (hb2.mono hB))
      have hB2 := B2.down.size
      clear hb2 Q
      go_wp2_with fail
      refine (unfolded_any x hql.1 _).mono ?_
      rintro e w2 ⟨rfl, rfl⟩
      generalize hu : unfN x = u
      have HU := PLift.up hu
      clear hu
      go_wp2_with (at_builtin; refine wpApp _ rfl _ _ _ rfl w.heap.size _ _ _ elT_i64 _ k (out.flatMap ei64) rfl (HO2.down.alloc _) (some ⟨w2.heap.size, 0, none⟩) 1 1 [.int .i64 u] rfl ?_ ?_ ?_ ?_ ?_ ?_ ?_ ?_)
      ·rfl
      ·simp
      ·intro ad had j y hy
       obtain rfl := Option.some.inj had
       match j, hy with
       | 0, hy => simp at hy; subst hy; simp [Addr.add_lit, go_sem]
       | j + 1, hy => simp at hy
      ·simp [Value.oneCell']
      ·simp only [maxLen]; omega
      ·omega
      ·simp; omega
      ·intro v' w3 hown hg _
       have hbb : Below w.heap.size w w3 := (B2.down.alloc (by omega) _).grown hg (by simp; omega) (fun q hq => (HO2.down.lt q hq).1)
       obtain ⟨a', c', rfl⟩ := own_slice hown
       have HO := PLift.up hown
       have HBB := PLift.up hbb
       clear hown hbb hg
       go_wp2_with fail
       go_roundw
       case rel =>
        refine ⟨k + 1, t', out ++ [unfN x], a', c', by omega, rfl, rfl, by omega, ?_, ?_, HBB.down⟩
        ·rw [← HST.down]; exact HI.down.1
        ·rw [List.flatMap_append, HU.down]; exact HO.down
       case measure => simp [slLen]; omega
     ·rw [if_neg h2] at hst
      have hr2 := (hst.symm.trans HI.down.1).trans HR.down.symm
      have z1 : (e2 != 0) = true := by simpa using h2
      have z2 : (e2 == 0) = false := by simpa using h2
      subst hr2
      have B1W := PLift.up HI.down.2.2
      clear hst HR HI h2
      go_wp2_with fail
      refine Q.down.mono ?_
      rintro e w2 ⟨rfl, hb2⟩
      have HI2 := PLift.up (B1W.down.trans (hb2.mono hB))
      clear hb2 Q
      go_wp2_with fail
      go_returns
      exact ⟨⟨_, rfl, 0, ⟨by simp, .inl ⟨rfl, rfl⟩⟩⟩, HI2.down⟩
    ·obtain rfl : k = n := by omega
     have hz := hI.out.1
     rw [Nat.sub_self] at hz
     have hz2 : gaF 0 t out = if t = ⟨#[]⟩ then (out, 0) else ([], 4) := rfl
     rw [hz2] at hz
     have HI := PLift.up hI.out
     clear hI hz2
     by_cases ht0 : t = ⟨#[]⟩
     ·rw [if_pos ht0] at hz
      have hr2 := hz.trans HR.down.symm
      subst hr2 ht0
      clear HR
      go_wp2_with fail
      go_returns
      exact ⟨⟨_, rfl, _, HI.down.2.1⟩, HI.down.2.2⟩
     ·rw [if_neg ht0] at hz
      have hr2 := hz.trans HR.down.symm
      subst hr2
      clear HR
      have hte : t.toList.isEmpty = false := by
       cases h : t.toList with
       | nil => exact absurd ((str_empty t).2 h) ht0
       | cons x l => rfl
      have hte2 : ¬ t.toList = [] := fun h => ht0 ((str_empty t).2 h)
      clear ht0
      go_wp2_with fail
      go_returns
      exact ⟨⟨_, rfl, 0, ⟨by simp, .inl ⟨rfl, rfl⟩⟩⟩, HI.down.2.2⟩
  ·rw [if_neg hn] at hr
   subst hr
   go_enter Tryz.func79, Tryz.ntmps79
   go_wp2_with fail
   refine P.down.mono ?_
   rintro e w1 ⟨rfl, hb1⟩
   have B1 := PLift.up hb1
   clear hb1 P
   go_wp2_with fail
   go_returns
   exact ⟨⟨_, rfl, 0, ⟨by simp, .inl ⟨rfl, rfl⟩⟩⟩, B1.down⟩
 ·rw [if_neg h0] at hr
  have z1 : (e1 != 0) = true := by simpa using h0
  have z2 : (e1 == 0) = false := by simpa using h0
  subst hr
  clear h0
  go_enter Tryz.func79, Tryz.ntmps79
  go_wp2_with fail
  refine P.down.mono ?_
  rintro e w1 ⟨rfl, hb1⟩
  have B1 := PLift.up hb1
  clear hb1 P
  go_wp2_with fail
  go_returns
  exact ⟨⟨_, rfl, 0, ⟨by simp, .inl ⟨rfl, rfl⟩⟩⟩, B1.down⟩
end Go.Proofs.YthiddmncjafklaaGreat
namespace Go.Proofs.YthiddmncjafklaaGreat
set_option linter.all false
open Go.RowKit
set_option maxRecDepth 100000
set_option maxHeartbeats 1000000
theorem rel_strInt' {s : ByteArray} {n : Int} {U : Nat → Prop} {w : World} {F : Nat → Prop} {β : Nat → Option Bind} : RelA U w F β (.tup [S s, I .i64 n]) (.tuple #[.string s, .int .i64 n]) := by
 simp only [RelA]
 refine ⟨_, rfl, ?_⟩
 simp [RelL, RelA, RelP, Value.oneCell']
theorem relL_v {w : World} {U F : Nat → Prop} {β : Nat → Option Bind} {x : Value} {vs : List Value} (h : RelL U w F β [.c (.v x)] vs) : vs = [x] := by
 obtain ⟨u, rfl, hu⟩ := relL_one h
 simp only [RelP] at hu
 rw [hu.1]
theorem flat_ei64 : ∀ xs : List Int, xs.flatMap ei64 = xs.map (Value.int .i64)
 | [] => rfl
 | a :: r => by simp [ei64, flat_ei64 r]
theorem spec_row {P : Program} {f : FuncId} (hf : Enters P f) (x : Value) (xs : List Int) (e : Int) (T : TypeId) (h : ∀ w : World, Calls P f #[x] w fun en w' => (∃ v, en = .returned (.tuple #[v, .int .i64 e]) ∧ ∃ n, w'.ownsRow w.heap.size T 1 v n (xs.flatMap ei64)) ∧ Below w.heap.size w w') : Spec P f [.c (.v x)] [] (.tup [.c (.sl 1 (xs.map i64P)), I .i64 e]) [] := by
 refine ⟨hf, Nat.le_refl _, fun w F β vs M hv => ?_⟩
 obtain rfl := relL_v hv
 refine (h w).mono ?_
 rintro en w' ⟨⟨v, rfl, n, hlen, hrow⟩, hb⟩
 have hn : n = xs.length := by
  rw [flat_ei64, List.length_map] at hlen
  omega
 subst hn
 have go : ∀ G : Nat → Prop, (∀ b, G b → w.heap.size ≤ b ∧ b < w'.heap.size) → RelP w' (fun b => F b ∨ G b) (.sl 1 (xs.map i64P)) v → ∃ v_1 F' β', Ending.returned (.tuple #[v, .int .i64 e]) = .returned v_1 ∧ MemOk w (inB β) (· < ([] : List Chunk).length) F' β' (nth []) w' ∧ RelA (· < ([] : List Chunk).length) w' F' β' (.tup [.c (.sl 1 (xs.map i64P)), I .i64 e]) v_1 ∧ (∀ b, F b → F' b) ∧ (∀ b, F' b → F b ∨ w.heap.size ≤ b ∨ inB β b) ∧ ∀ i bd, i < ([] : List Chunk).length → β' i = some bd → β i = some bd := by
  intro G hG hr
  obtain ⟨S1, S2⟩ := M.step (w' := w') (h' := nth []) (β' := β) (F' := fun b => F b ∨ G b) (U' := (· < 0)) (fun _ => False) (fun _ _ => rfl) (fun _ _ => rfl) hb.os hb.tape hb.output hb.size (fun b h _ => hb.block b h) (fun _ h => h) (fun _ h => .inl h)
   (fun b h => by
    rcases h with h | h
    ·exact ⟨Nat.lt_of_lt_of_le (M.fin b h) hb.size, .inl h⟩
    ·exact ⟨(hG b h).2, .inr (.inl (hG b h).1)⟩) (fun _ _ h => h.elim) (fun _ _ h => h.elim) (fun _ _ _ _ _ h => h.elim) (fun _ _ h => h.elim)
  refine ⟨_, fun b => F b ∨ G b, β, rfl, S1, ?_, fun _ h => .inl h, fun b h => ?_, fun _ _ _ h => h⟩
  ·simp only [RelA]
   refine ⟨_, rfl, ?_⟩
   simp only [RelL, RelA]
   exact ⟨v, _, rfl, hr, _, _, rfl, by simp [RelP, Value.oneCell'], rfl⟩
  ·rcases h with h | h
   ·exact .inl h
   ·exact .inr (.inl (hG b h).1)
 rcases hrow with ⟨rfl, h0⟩ | ⟨g, cap, cur, rfl, h1, h2, h3, h4, h5, h6⟩
 ·refine go (fun _ => False) (fun _ h => h.elim) ?_
  obtain rfl : xs = [] := List.eq_nil_of_length_eq_zero h0
  simp only [RelP]
  exact ⟨none, 0, rfl, Nat.le_refl _, Nat.zero_le _, .inl rfl⟩
 ·refine go (fun b => b = g) (fun b hbg => by subst hbg; exact ⟨h1, (Array.getElem?_eq_some_iff.1 h2).1⟩) ?_
  simp only [RelP]
  refine ⟨some ⟨g, 0, none⟩, cap, by rw [List.length_map], by rwa [List.length_map], h4, .inr ⟨g, 0, rfl, .inr rfl, RelE.of fun i cs hi => ?_⟩⟩
  rw [List.getElem?_map] at hi
  cases hx : xs[i]? with
  | none => rw [hx] at hi; simp at hi
  | some z =>
   rw [hx] at hi
   have hi' : i64P z = cs := by simpa using hi
   subst hi'
   refine ⟨rfl, ?_⟩
   unfold i64P
   simp only [RelC, and_true, Nat.mul_one, Nat.zero_add, RelP]
   refine ⟨_, ?_, rfl, rfl⟩
   have hlt : i < xs.length := (List.getElem?_eq_some_iff.1 hx).1
   have e1 : (cur.toList.take (xs.length * 1))[i]? = some (.int .i64 z) := by
    rw [h6]
    rw [flat_ei64, List.getElem?_map, hx]; rfl
   rw [List.getElem?_take, if_pos (by omega)] at e1
   unfold World.cell?
   simp only [h2]
   simpa using e1
theorem copen_s (s : ByteArray) (hs : s.size ≤ 140737488351232) : Spec Tryz.prog 73 [S s] [] (.tup [S (openR s).1, I .i64 (openR s).2]) [] :=
 spec_any (enters Tryz.func73 (by kernel_rfl) rfl) _ _ (.tuple #[.string (openR s).1, .int .i64 (openR s).2]) (fun _ _ _ _ => rel_strInt') fun w F β vs hF hv => by
  obtain rfl := relL_v hv
  exact open_any s w hs
theorem ropened_s (s : ByteArray) (hs : s.size ≤ 140737488351232) : Spec Tryz.prog 78 [S s] [] (.tup [S (openR s).1, I .i64 (openR s).2]) [] :=
 spec_any (enters Tryz.func78 (by kernel_rfl) rfl) _ _ (.tuple #[.string (openR s).1, .int .i64 (openR s).2]) (fun _ _ _ _ => rel_strInt') fun w F β vs hF hv => by
  obtain rfl := relL_v hv
  exact opened_any s w hs
theorem getAll_s (s : ByteArray) (hs : s.size ≤ 140737488351232) : Spec Tryz.prog 74 [S s] [] (.tup [.c (.sl 1 ((gaR s).1.map i64P)), I .i64 (gaR s).2]) [] :=
 spec_row (enters Tryz.func74 (by kernel_rfl) rfl) _ _ _ 3 fun w => getAll_any s w hs
theorem runpacked_s (s : ByteArray) (hs : s.size ≤ 140737488351232) : Spec Tryz.prog 79 [S s] [] (.tup [.c (.sl 1 ((gaR s).1.map i64P)), I .i64 (gaR s).2]) [] :=
 spec_row (enters Tryz.func79 (by kernel_rfl) rfl) _ _ _ 3 fun w => unpackedAll_any s w hs
theorem openR_size (s : ByteArray) : (openR s).1.size ≤ s.size := by
 unfold openR
 split
 ·exact Nat.zero_le _
 ·split
  ·simp only [ByteArray.size_extract]; omega
  ·exact Nat.zero_le _
theorem gaF_len : ∀ (n : Nat) (s : ByteArray) (out : List Int), (gaF n s out).1.length ≤ out.length + n
 | 0, s, out => by unfold gaF; split <;> simp
 | n + 1, s, out => by
  unfold gaF
  split
  ·have := gaF_len n (getR s).2.1 (out ++ [unfN (getR s).1]); simp at this; omega
  ·simp
theorem gaR_len (s : ByteArray) : (gaR s).1.length ≤ 1000 := by
 unfold gaR
 split
 ·split
  ·rename_i h; have := gaF_len (getR s).1 (getR s).2.1 []; simp at this; omega
  ·simp
 ·simp
end Go.Proofs.YthiddmncjafklaaGreat
namespace Go.Proofs.YthiddmncjafklaaGreat
set_option linter.all false
open Go.RowKit
section
variable {P : Program} {l : Nat} {n : Nat}
abbrev inR (l : Nat) : Fence := Fence.wide.inRound l
theorem calls_inR {f : FuncId} {args : Array Value} {w : World} {R : Ending → World → Prop} (h : Calls P f args w R) : CallsIn (inR l) n P f args w R := (callsIn_wide (n := n)).2 h
theorem rows_inR {row : String} {args : Array Value} {w : World} {R : Value → World → Prop} (h : Rows P row args w R) : RowsIn (inR l) n P row args w R := fun c cs _ => let ⟨v, w', r, s⟩ := h c cs; ⟨v, w', r, stepsIn_wide.2 s⟩
def notDefer (o : Oper) : Bool := match o.op with | .defer _ => false | _ => true
theorem oper_inR {o : Oper} {a : Act} {w : World} {next : Act → World → Prop} {Q : Exit → Act → World → Prop} (hd : notDefer o = true) (h : o.wp P a w next Q) : o.wpIn (inR l) n P a w next Q := by
 refine ⟨fun _ _ => trivial, ?_⟩
 rw [Oper.semAt_eq _ _ _ (by intro c hc; unfold notDefer at hd; rw [hc] at hd; cases hd)]
 unfold Oper.wp at h
 generalize (execOp a.eval o).run P w = r at *
 have hn : (inR l).depth.isSome = true → 1 ≤ n := fun h => by simp [inR, Fence.wide] at h
 cases r with
 | ok x w' =>
  cases x <;> simp only [Oper.upon, Oper.uponIn] at h ⊢ <;> first | exact h | exact ⟨hn, calls_inR (Calls.mono h (fun e w'' he => by cases e <;> exact he))⟩ | exact ⟨hn, rows_inR h⟩
 | halt x w' => cases x <;> simp only [Oper.upon, Oper.uponIn] at h ⊢ <;> exact h
theorem op_inR {ops : Array Oper} {Q : Exit → Act → World → Prop} {i : Nat} {K K' : Act → World → Prop} {a : Act} {w : World} (hd : ∀ o ∈ ops.toList, notDefer o = true) (hq : ¬ LetsOut Q) (hk : ∀ a w, K a w → K' a w) (h : wpOp P ops Q i K a w) : wpOpIn (inR l) n P ops Q i K' a w := by
 unfold wpOp at h
 unfold wpOpIn
 cases ho : ops[i]? with
 | none => simp only [ho] at h; exact hk _ _ h
 | some o =>
  simp only [ho] at h
  have hm : o ∈ ops.toList := by
   rw [Array.getElem?_eq_some_iff] at ho
   obtain ⟨hi, rfl⟩ := ho
   simp
  simp only
  split
  ·rename_i hw
   rw [if_pos hw] at h
   rcases h with h | h
   ·exact Oper.wpIn_mono hk (oper_inR (hd o hm) h)
   ·exact absurd h.2 hq
  ·rename_i hw
   rw [if_neg hw] at h
   exact ⟨fun _ _ => trivial, hk _ _ h⟩
theorem any_inR {ops : Array Oper} {Q : Exit → Act → World → Prop} {md : Region.Mode} (hd : ∀ o ∈ ops.toList, notDefer o = true) (hq : ¬ LetsOut Q) : ∀ (fuel : Nat) (listed : Array Bool) (a : Act) (w : World), wpAny P md ops Q fuel listed a w → wpAnyIn (inR l) n P md ops Q fuel listed a w
 | 0, _, _, _, h => h
 | fuel + 1, listed, a, w, h => ⟨h.1, fun i hi => op_inR hd hq (fun a w hk => any_inR hd hq fuel _ a w hk) (h.2 i hi)⟩
def noDefer : Code → Bool
 | .region _ ops _ => ops.toList.all notDefer
 | .seq x y => noDefer x && noDefer y
 | .cond _ x y => noDefer x && noDefer y
 | .block _ c => noDefer c
 | .loop c => noDefer c
 | .scope _ => false
 | .rangeFunc _ _ _ _ => false
 | _ => true
section
variable {H : Hist}
def NoOut (Q : Exit → St → Prop) : Prop := ∀ s, ¬ Q .outgrown s
theorem NoOut.lets {Q : Exit → St → Prop} (h : NoOut Q) : ¬ LetsOut (Post H Q) := by
 rintro ⟨a, w, s, F, β, _, hq⟩
 exact h s hq
theorem awpL_inR {ops : Array Oper} {Q : Exit → St → Prop} (hno : NoOut Q) : ∀ (L : List Oper) (s : St) (F : Nat → Prop) (β : Nat → Option Bind) (a : Act) (w : World), (∀ o ∈ L, notDefer o = true) → awpL P H.nt ops L (Q .normal) s → Conc H s F β a w → wpListIn (inR l) n P ops (Post H Q) L a w
 | [], ⟨t, h0, m⟩, F, β, a, w, _, h, C => ⟨⟨t, h0, m⟩, F, β, C, h⟩
 | o :: r, ⟨t, h0, m⟩, F, β, a, w, hd, h, C => by
  simp only [awpL] at h
  have := opW_run C h (next := wpListIn (inR l) n P ops (Post H Q) r) (Q := Post H Q) fun s' F' β' a' w' hk C' => awpL_inR hno r s' F' β' a' w' (fun o ho => hd o (by simp [ho])) hk C'
  unfold wpListIn
  split
  ·rename_i hw
   rw [if_pos hw] at this
   rcases this with h1 | h1
   ·exact oper_inR (hd o (by simp)) h1
   ·exact absurd h1.2 hno.lets
  ·rename_i hw
   rw [if_neg hw] at this
   exact ⟨fun _ _ => trivial, this⟩
theorem awp_inR (hmix : P.follows .mixedOrders = true) : ∀ (c : Code), noDefer c = true → ∀ (Q : Exit → St → Prop), NoOut Q → ∀ (s : St) (F : Nat → Prop) (β : Nat → Option Bind) (a : Act) (w : World), awp P H.nt H.k c Q s → Conc H s F β a w → c.wpIn (inR l) n P (Post H Q) a w := by
 intro c
 induction c with
 | skip => intro _ Q _ s F β a w h C; cases s; exact wpIn_skip ⟨_, F, β, C, h⟩
 | region id ops draw =>
  intro hd Q hno s F β a w h C
  have hd' : ∀ o ∈ ops.toList, notDefer o = true := List.all_eq_true.1 hd
  cases s
  cases draw with
  | false => exact wpIn_region_list (awpL_inR hno ops.toList _ F β a w hd' h C)
  | true => exact wpIn_region_any hmix (any_inR hd' hno.lets _ _ _ _ (draw_any h C))
 | seq x y ihx ihy =>
  intro hd Q hno s F β a w h C
  simp only [noDefer, Bool.and_eq_true] at hd
  obtain ⟨st, sh, sn⟩ := s
  simp only [awp] at h
  refine wpIn_seq (wpIn_mono (ihx hd.1 (seqK (awp P H.nt H.k y Q) Q) (fun s hs => hno s hs) _ F β a w h C) ?_)
  rintro e a' w' ⟨s', F', β', C', hq⟩
  cases e with
  | normal => exact ihy hd.2 Q hno s' F' β' a' w' hq C'
  | _ => exact ⟨s', F', β', C', hq⟩
 | cond c x y ihx ihy =>
  intro hd Q hno s F β a w h C
  simp only [noDefer, Bool.and_eq_true] at hd
  obtain ⟨st, sh, sn⟩ := s
  simp only [awp] at h
  have one : ∀ Q' : Exit → St → Prop, NoOut Q' → CondG (getO (look st) c) (awp P H.nt H.k x Q') (awp P H.nt H.k y Q') ⟨st, sh, sn⟩ → (Code.cond c x y).wpIn (inR l) n P (Post H Q') a w := by
   intro Q' hno' h
   unfold CondG at h
   split at h
   ·rename_i b hb
    have hg := C.G c
    rw [hb] at hg
    exact wpIn_cond_split (relB.1 hg) (fun hb => ihx hd.1 Q' hno' _ F β a w (h.1 hb) C) fun hb => ihy hd.2 Q' hno' _ F β a w (h.2 hb) C
   ·exact h.elim
  rcases h with h | ⟨α, S, Pr, h1, h2⟩
  ·exact one Q hno h
  ·refine wpIn_mono (one (joinK H.k S Pr Q) (fun s hs => hno s hs) h1) ?_
   rintro e a' w' ⟨s', F', β', C', hq⟩
   cases e with
   | normal =>
    obtain ⟨z, hz, hto⟩ := hq
    obtain ⟨F2, β2, C2⟩ := hto H F' β' a' w' rfl C'
    exact ⟨S z, F2, β2, C2, h2 z hz⟩
   | _ => exact ⟨s', F', β', C', hq⟩
 | block id c ih =>
  intro hd Q hno s F β a w h C
  simp only [noDefer] at hd
  obtain ⟨st, sh, sn⟩ := s
  simp only [awp] at h
  refine wpIn_block (wpIn_mono (ih hd (blkK id Q) (fun s hs => hno s hs) _ F β a w h C) ?_)
  rintro e a' w' ⟨s', F', β', C', hq⟩
  cases e with
  | exit i =>
   simp only [Exit.inBlock]
   simp only [blkK] at hq
   by_cases hi : i = id
   ·rw [if_pos hi] at hq ⊢; exact ⟨s', F', β', C', hq⟩
   ·rw [if_neg hi] at hq ⊢; exact ⟨s', F', β', C', hq⟩
  | _ => exact ⟨s', F', β', C', hq⟩
 | loop c ih =>
  intro hd Q hno s F β a w h C
  simp only [noDefer] at hd
  obtain ⟨st, sh, sn⟩ := s
  simp only [awp] at h
  obtain ⟨α, S, Pr, μ, ⟨x0, hx0, hto⟩, hround⟩ := h
  obtain ⟨F0, β0, C0⟩ := hto H F β a w rfl C
  classical
  let Iv : Act → World → Nat → Prop := fun a w n => ∃ x F β, Pr x ∧ Conc H (S x) F β a w ∧ μ x = n
  refine wpIn_loop (fun a w => ∃ n, Iv a w n) (fun a w => if h : ∃ n, Iv a w n then Classical.choose (least h) else 0) ⟨_, x0, F0, β0, hx0, C0, rfl⟩ ?_
  intro a1 w1 hI
  obtain ⟨x, F1, β1, hx, C1, hμ⟩ := (Classical.choose_spec (least hI)).1
  refine wpIn_mono (ih hd (lpK H.k S Pr μ x Q) (fun s hs => hno s hs) (S x) F1 β1 a1 w1 (hround x hx) C1) ?_
  rintro e a' w' ⟨s', F', β', C', hq⟩
  cases e with
  | normal =>
   obtain ⟨y, hy, hlt, hto'⟩ := hq
   obtain ⟨F2, β2, C2⟩ := hto' H F' β' a' w' rfl C'
   have hI' : ∃ n, Iv a' w' n := ⟨_, y, F2, β2, hy, C2, rfl⟩
   refine ⟨hI', ?_⟩
   simp only [dif_pos hI', dif_pos hI]
   rw [← hμ]
   exact Nat.lt_of_le_of_lt ((Classical.choose_spec (least hI')).2 _ ⟨y, F2, β2, hy, C2, rfl⟩) hlt
  | _ => exact ⟨s', F', β', C', hq⟩
 | rangeFunc f ps x y _ _ => intro hd; simp [noDefer] at hd
 | exit id => intro _ Q _ s F β a w h C; cases s; exact wpIn_exit ⟨_, F, β, C, h⟩
 | scope c ih => intro hd; simp [noDefer] at hd
 | label l => intro _ Q _ s F β a w h C; cases s; exact wpIn_label ⟨_, F, β, C, h⟩
 | goto l => intro _ Q _ s F β a w h C; cases s; exact h.elim
 | ret => intro _ Q _ s F β a w h C; cases s; exact wpIn_ret ⟨_, F, β, C, h⟩
 | refuse why => intro _ Q _ s F β a w h C; cases s; exact h.elim
end
theorem asg_inR {i : Nat} {d p : Tmp} {ty : TypeId} {pos : String} {es : Array Edge} {K : Act → World → Prop} {J : Exit → Act → World → Prop} {a : Act} {w : World} (h : K (a.put (some d) (a.tmps.getD p undef)) w) : (Code.region i #[{ dst := some d, op := .assign (.tmp p), type := ty, pos := pos, after := es, guard := none }] false).wpIn (inR l) n P (Exit.then K J) a w := by
 refine wpIn_region_list ?_
 simp only [wpListIn, Region.wanted, if_true]
 refine oper_inR rfl ?_
 unfold Oper.wp
 exact h
end
def aliveB (h : Nat → Chunk) (β : Nat → Option Bind) (i : Nat) : Option Bind := match h i with | .dead => none | _ => β i
theorem aliveB_le {h : Nat → Chunk} {β : Nat → Option Bind} {i : Nat} {bd : Bind} (hb : aliveB h β i = some bd) : h i ≠ .dead ∧ β i = some bd := by
 unfold aliveB at hb
 split at hb
 ·cases hb
 ·rename_i hd; exact ⟨hd, hb⟩
theorem aliveB_of {h : Nat → Chunk} {β : Nat → Option Bind} {i : Nat} (hd : h i ≠ .dead) : aliveB h β i = β i := by
 unfold aliveB
 split
 ·rename_i e; exact absurd e hd
 ·rfl
theorem MemOk.alive {W : World} {N U F : Nat → Prop} {β : Nat → Option Bind} {h : Nat → Chunk} {w : World} (M : MemOk W N U F β h w) : MemOk W N U F (aliveB h β) h w := by
 have E : Ext U F β w U F (aliveB h β) w := ⟨fun _ h => h, fun b hb => ⟨hb, rfl⟩, fun i bd _ hb => (aliveB_le hb).2⟩
 refine ⟨M.size, M.os, M.tape, M.output, M.frame, M.fin, fun id bd hb => M.used id bd (aliveB_le hb).2, fun id hd => ?_, fun i j bi bj b hi hj => M.dis i j bi bj b (aliveB_le hi).2 (aliveB_le hj).2, fun i bd b hb => M.off i bd b (aliveB_le hb).2⟩
 obtain ⟨bd, hb, hc⟩ := M.ch id hd
 exact ⟨bd, by rw [aliveB_of hd]; exact hb, hc.mono E fun g _ => rfl⟩
theorem Conc.alive {H : Hist} {s : St} {F : Nat → Prop} {β : Nat → Option Bind} {a : Act} {w : World} (C : Conc H s F β a w) : Conc H s F (aliveB (lookC s.h) β) a w := by
 have E : Ext (· < s.n) F β w (· < s.n) F (aliveB (lookC s.h) β) w := ⟨fun _ h => h, fun b hb => ⟨hb, rfl⟩, fun i bd _ hb => (aliveB_le hb).2⟩
 exact ⟨fun t => RelA.mono E _ _ (C.t t), C.m.alive, C.nt, C.d, C.f, C.g, fun i bd hi hb => C.e i bd hi (aliveB_le hb).2, C.k⟩
def noMp (h : Nat → Chunk) : Prop := ∀ i a n es, h i ≠ .mp a n es
theorem Conc.beyond {H : Hist} {s : St} {F : Nat → Prop} {β : Nat → Option Bind} {a : Act} {A B : World} (C : Conc H s F β a A) (hmp : noMp (lookC s.h)) {S : Nat} (hS : H.W.heap.size ≤ S) (hds : ∀ D, mkD D ∈ a.defers → D < S) {row : Option Nat} (hg : A.grownBy B row) (hr : ∀ r, row = some r → S ≤ r ∧ ∃ o : Obj, A.heap[r]? = some o ∧ o.isCells = false) : Conc H s F β a B := by
 have same : ∀ b o, A.heap[b]? = some o → (o.isCells = true ∨ b < S) → B.heap[b]? = A.heap[b]? := by
  intro b o ho hc
  refine hg.block b (Array.getElem?_eq_some_iff.1 ho).1 fun e => ?_
  obtain ⟨h1, o', h2, h3⟩ := hr b e.symm
  rw [ho] at h2; cases h2
  rcases hc with hc | hc
  ·rw [h3] at hc; cases hc
  ·omega
 have st : CellsStay A B := by
  intro b o u hu
  unfold World.cell? at hu ⊢
  cases hb : A.heap[b]? with
  | none => simp [hb] at hu
  | some ob =>
   simp only [hb] at hu
   cases ob with
   | cells c t f => simp only [same b _ hb (.inl rfl), hb]; exact hu
   | _ => simp at hu
 have M := C.m
 refine ⟨fun t => RelA.sh st _ _ (C.t t), ⟨Nat.le_trans M.size hg.size, hg.os.trans M.os, hg.tape.trans M.tape, hg.output.trans M.output, fun b hb hN => ?_, fun b hb => Nat.lt_of_lt_of_le (M.fin b hb) hg.size, M.used, fun id hd => ?_, M.dis, fun i bd b hb hbb => ?_⟩, C.nt, ?_, C.f, C.g, C.e, C.k⟩
 ·refine (hg.block b (Nat.lt_of_lt_of_le hb M.size) fun e => ?_).trans (M.frame b hb hN)
  have := (hr b e.symm).1; omega
 ·obtain ⟨bd, hb, hk⟩ := M.ch id hd
  refine ⟨bd, hb, ?_⟩
  cases hc : lookC s.h id with
  | dead => trivial
  | row e sz xs =>
   rw [hc] at hk
   refine hk.sh st fun g hbg => ?_
   obtain ⟨_, _, _, h4⟩ := hk
   rcases h4 with ⟨h4, _⟩ | ⟨g', cap, cur, h5, _, h7, _⟩
   ·rw [h4] at hbg; cases hbg
   ·rw [h5] at hbg; cases hbg; exact same g _ h7 (.inl rfl)
  | blk t cs =>
   rw [hc] at hk
   refine hk.sh st fun g hbg => ?_
   obtain ⟨_, _, g', vs, h5, _, h7, _⟩ := hk
   rw [h5] at hbg; cases hbg; exact same g _ h7 (.inl rfl)
  | mp a n es => exact absurd hc (hmp id a n es)
 ·obtain ⟨h1, h2, h3⟩ := M.off i bd b hb hbb
  exact ⟨h1, Nat.lt_of_lt_of_le h2 hg.size, h3⟩
 ·obtain ⟨Ds, h1, h2, h3⟩ := C.d
  refine ⟨Ds, h1, h2, fun D hD => ⟨(h3 D hD).1, (h3 D hD).2.1, ?_⟩⟩
  have hlt : D < S := hds D (by rw [h1]; exact List.mem_map.2 ⟨D, hD, rfl⟩)
  exact (same D _ (h3 D hD).2.2 (.inr hlt)).trans (h3 D hD).2.2
def isMp : Chunk → Bool
 | .mp _ _ _ => true
 | _ => false
theorem noMp_list {L : List (Nat × Chunk)} (h : (L.all fun x => !isMp x.2) = true) : noMp (lookC L) := by
 induction L with
 | nil => intro i a n es he; simp [lookC] at he
 | cons x r ih =>
  intro i a n es he
  simp only [List.all_cons, Bool.and_eq_true] at h
  simp only [lookC] at he
  split at he
  ·have := h.1; rw [he] at this; simp [isMp] at this
  ·exact ih h.2 i a n es he
mutual
theorem RelA.narrow {U U' F : Nat → Prop} {β : Nat → Option Bind} {w : World} : ∀ (x : AV) (u : Value), (∀ i ∈ idsA x, U' i) → RelA U w F β x u → RelA U' w F β x u
 | .undef, _, _, _ => by simp only [RelA]
 | .c p, u, _, h => by simp only [RelA] at h ⊢; exact h
 | .agg xs, u, hi, h => by
  simp only [RelA] at h ⊢
  obtain ⟨vs, rfl, h1, h2⟩ := h
  exact ⟨vs, rfl, RelL.narrow xs _ hi h1, h2⟩
 | .tup xs, u, hi, h => by
  simp only [RelA] at h ⊢
  obtain ⟨vs, rfl, h1⟩ := h
  exact ⟨vs, rfl, RelL.narrow xs _ hi h1⟩
 | .own id, u, hi, h => by simp only [RelA] at h ⊢; exact ⟨hi id (by simp [idsA]), h.2⟩
 | .view id o l, u, hi, h => by simp only [RelA] at h ⊢; exact ⟨hi id (by simp [idsA]), h.2⟩
 | .ptr id i o, u, hi, h => by simp only [RelA] at h ⊢; exact ⟨hi id (by simp [idsA]), h.2⟩
 | .fel sz xs i o, u, _, h => by simp only [RelA] at h ⊢; exact h
 | .clo f x y, u, hi, h => by
  simp only [RelA] at h ⊢
  obtain ⟨fs, cs, rfl, h1, h2⟩ := h
  exact ⟨fs, cs, rfl, RelL.narrow x _ (fun i hm => hi i (by simp [idsA, hm])) h1, RelL.narrow y _ (fun i hm => hi i (by simp [idsA, hm])) h2⟩
 | .ifc t x, u, hi, h => by
  simp only [RelA] at h ⊢
  obtain ⟨y, rfl, h1⟩ := h
  exact ⟨y, rfl, RelA.narrow x y hi h1⟩
 | .map id, u, hi, h => by simp only [RelA] at h ⊢; exact ⟨hi id (by simp [idsA]), h.2⟩
 | .opt t x, u, hi, h => by simp only [RelA] at h ⊢; exact ⟨fun ht => RelA.narrow x u hi (h.1 ht), h.2⟩
theorem RelL.narrow {U U' F : Nat → Prop} {β : Nat → Option Bind} {w : World} : ∀ (xs : List AV) (us : List Value), (∀ i ∈ idsL xs, U' i) → RelL U w F β xs us → RelL U' w F β xs us
 | [], us, _, h => by simp only [RelL] at h ⊢; exact h
 | x :: r, us, hi, h => by
  simp only [RelL] at h ⊢
  obtain ⟨u, us', rfl, h1, h2⟩ := h
  exact ⟨u, us', rfl, RelA.narrow x u (fun i hm => hi i (by simp [idsL, hm])) h1, RelL.narrow r us' (fun i hm => hi i (by simp [idsL, hm])) h2⟩
end
theorem look_ids {k2 : Nat} : ∀ {t : List (Nat × AV)}, (idsL (t.map (·.2))).all (fun i => Nat.blt i k2) = true → ∀ j, ∀ i ∈ idsA (look t j), i < k2
 | [], _, j, i, h => by simp [look, idsA] at h
 | (k, x) :: r, hall, j, i, h => by
  simp only [List.map_cons, idsL, List.all_append, Bool.and_eq_true] at hall
  simp only [look] at h
  split at h
  ·have := List.all_eq_true.1 hall.1 i h; simpa using this
  ·exact look_ids hall.2 j i h
def IterOk (P : Program) (gf : FuncId) (b : List AV) {ι : Type} (pv : ι → PV) (Pi : ι → Prop) (its : List ι) : Prop :=
 Enters P gf ∧ ∀ (w : World) (U F : Nat → Prop) (β : Nat → Option Bind) (lb : List Value), (∀ b, F b → b < w.heap.size) → RelL U w F β b lb →
  SeqStopsK Fence.wide 2 P gf lb.toArray (fun x : {x : ι × Value // Pi x.1 ∧ RelP w F (pv x.1) x.2} => #[x.1.2]) (fun W W' => ∀ b, F b → W'.heap[b]? = W.heap[b]?) (fun xs => xs.map (fun x => x.1.1) = its) (fun _ => True) its.length w
def rgK (k2 n' : Nat) (h : List (Nat × Chunk)) : Exit → St → Prop
 | .normal, s => ToK k2 s ⟨[], h, n'⟩
 | _, _ => False
theorem rgK_n {k2 n' : Nat} {h : List (Nat × Chunk)} {s : St} : rgK k2 n' h .normal s = ToK k2 s ⟨[], h, n'⟩ := rfl
theorem eg_of {P : Program} {f : FuncId} (h : Enters P f) (args : Array Value) (w : World) : (callFunc f args).run P w = .ok (.enter f args) w := by
 obtain ⟨fn, h1, h2, h3⟩ := h
 have h4 : fn.body.isNone = false := by cases hb : fn.body <;> simp_all
 simp only [callFunc, Sem.run_bind, run_program, Result.andThen_ok, h1, h3, Bool.false_eq_true, if_false, h4, Sem.run_pure]
theorem range_i {P : Program} (hmix : P.follows .mixedOrders = true) {nt k : Nat} {g : Operand} {p d : Tmp} {i0 : Nat} {ty : TypeId} {pos : String} {es : Array Edge} {y : Code} {Q : Exit → St → Prop} {s : St} {gf : FuncId} {b : List AV} {ι : Type} {pv : ι → PV} {Pi : ι → Prop} {its : List ι}
 (hg : getO (look s.t) g = .clo (.func gf) [] b) (IT : IterOk P gf b pv Pi its) (t' : List (Nat × AV)) (k2 n' : Nat) (hs : List ι → List (Nat × Chunk)) (hto : ToK k s ⟨t', hs [], n'⟩)
 (hids : (idsL (t'.map (·.2))).all (fun i => Nat.blt i k2) = true) (hk2 : k2 ≤ n') (hk : k ≤ k2) (hmp : ∀ pre, noMp (lookC (hs pre))) (hnd : noDefer y = true) (hp : p < nt) (hdn : d < nt)
 (hbody : ∀ (pre : List ι) (x : ι), pre.length < its.length → (∀ z ∈ pre, Pi z) → Pi x → awp P nt k2 y (rgK k2 n' (hs (pre ++ [x]))) ⟨(d, .c (pv x)) :: (p, .c (pv x)) :: t', hs pre, n'⟩)
 (hdone : Q .normal ⟨t', hs its, n'⟩) : RangeG P nt k g #[p] (Code.region i0 #[{ dst := some d, op := .assign (.tmp p), type := ty, pos := pos, after := es, guard := none }] false) y Q s := by
 intro H F β a w hnt hHk C
 -- the iterator's value
 have hgv := C.G g
 rw [hg] at hgv
 simp only [RelA] at hgv
 obtain ⟨fs, cs, hgv, h1, h2⟩ := hgv
 simp only [RelL] at h1
 obtain rfl : fs = #[] := by simpa using h1
 -- the state at the loop's head, all that is frozen kept
 let H1 : Hist := { H with F := F }
 have C1 : Conc H1 s F β a w := ⟨C.t, C.m, C.nt, C.d, fun b hb => hb, fun b hb => .inl hb, C.e, C.k⟩
 obtain ⟨F0, β0, C0⟩ := hto H1 F β a w hHk C1
 have hds : ∀ D, mkD D ∈ a.defers → D < w.heap.size := by
  intro D hD
  obtain ⟨Ds, e1, _, e3⟩ := C.d
  rw [e1] at hD
  obtain ⟨D', hD', e⟩ := List.mem_map.1 hD
  have : D' = D := by simpa [mkD] using e
  subst this
  exact C.m.fin _ (e3 D' hD').1
 have hWs : H1.W.heap.size ≤ w.heap.size := C.m.size
 let α := {x : ι × Value // Pi x.1 ∧ RelP w F (pv x.1) x.2}
 let I : List α → World → Prop := fun pre W => (∃ F' β', Conc H1 ⟨t', hs (pre.map (fun x => x.1.1)), n'⟩ F' β' a W) ∧ (∀ b, F b → W.heap[b]? = w.heap[b]?)
 refine wpIn_wide.1 (wpIn_rangeFunc_ownG (F := Fence.wide) (n := 3) rfl (by decide) hgv trivial (eg_of IT.1) (IT.2 w _ F β cs.toList (fun b hb => C.m.fin b hb) h2) (fun h1 h2 b hb => (h2 b hb).trans (h1 b hb))
  (fun W l o o' hl ho hc _ b hb => World.putObj_heap_other (by have := C.m.fin b hb; omega)) (Below.refl _ _) (fun _ => rfl) I (fun _ _ _ => False) ?hI (fun _ _ _ _ _ h _ _ => h) ⟨⟨F0, β0, C0⟩, fun _ _ => rfl⟩
  (fun x => ({ tmps := a.tmps.setIfInBounds p x.1.2, defers := [] } : Act).put (some d) (({ tmps := a.tmps.setIfInBounds p x.1.2, defers := [] } : Act).tmps.getD p undef)) ?hassign ?hbody ?hdone ?hstop)
 case hI =>
  rintro pre A B row ⟨⟨F', β', C'⟩, hk⟩ hgr hr
  refine ⟨⟨F', β', C'.beyond (hmp _) hWs hds hgr hr⟩, fun b hb => ?_⟩
  refine (hgr.block b ?_ fun e => ?_).trans (hk b hb)
  ·have hl := C.m.fin b hb
   have : A.heap[b]?.isSome = true := by rw [hk b hb]; simp [hl]
   simpa using this
  ·have := (hr b e.symm).1; have := C.m.fin b hb; omega
 case hassign =>
  intro l x W K hK
  refine asg_inR ?_
  simpa using hK
 case hbody =>
  rintro l pre x W ⟨⟨F', β', C'⟩, hkp⟩ hlen
  obtain ⟨x, hPx, hxr⟩ := x
  have C2 := C'.alive
  obtain ⟨βr, hβr⟩ : ∃ βr, βr = aliveB (lookC (hs (pre.map (fun x => x.1.1)))) β' := ⟨_, rfl⟩
  rw [← hβr] at C2
  let H2 : Hist := ⟨W, inB βr, F', βr, k2, nt⟩
  have hFF : ∀ b, F b → F' b := C'.f
  have hxW : RelP W F' (pv x.1) x.2 := RelP.mono (fun b hb => ⟨hFF b hb, hkp b hb⟩) _ _ hxr
  have hsz : a.tmps.size = nt := C.nt.trans hnt
  have off : ∀ i bd b, βr i = some bd → bd.b = some b → ¬ F' b := fun i bd b h1 h2 => (C2.m.off i bd b h1 h2).1
  have CB : Conc H2 ⟨(d, .c (pv x.1)) :: (p, .c (pv x.1)) :: t', hs (pre.map (fun x => x.1.1)), n'⟩ F' βr (({ tmps := a.tmps.setIfInBounds p x.2, defers := [] } : Act).put (some d) (({ tmps := a.tmps.setIfInBounds p x.2, defers := [] } : Act).tmps.getD p undef)) W := by
   refine ⟨fun t => ?_, ?_, ?_, Dfr.nil _ _ _, fun b hb => hb, fun b hb => .inl hb, fun i bd _ hb => hb, hk2⟩
   ·have hpv : (a.tmps.setIfInBounds p x.2).getD p undef = x.2 := by
     rw [Array.getD_eq_getD_getElem?, Array.getElem?_setIfInBounds_self, if_pos (by rw [hsz]; exact hp)]; rfl
    have base : ∀ t, RelA (· < n') W F' βr (look ((p, .c (pv x.1)) :: t') t) ((a.tmps.setIfInBounds p x.2).getD t undef) := by
     intro t
     simp only [look]
     by_cases e : p = t
     ·subst e; rw [if_pos rfl, hpv]; simp only [RelA]; exact hxW
     ·rw [if_neg e, Array.getD_eq_getD_getElem?, Array.getElem?_setIfInBounds_ne e, ← Array.getD_eq_getD_getElem?]; exact C2.t t
    simp only [Act.put, look]
    by_cases e : d = t
    ·subst e
     rw [if_pos rfl, Array.getD_eq_getD_getElem?, Array.getElem?_setIfInBounds_self, if_pos (by rw [Array.size_setIfInBounds, hsz]; exact hdn), hpv]
     simp only [RelA, Option.getD_some]; exact hxW
    ·rw [if_neg e, Array.getD_eq_getD_getElem?, Array.getElem?_setIfInBounds_ne e, ← Array.getD_eq_getD_getElem?]
     exact base t
   ·exact ⟨Nat.le_refl _, rfl, rfl, rfl, fun _ _ _ => rfl, C2.m.fin, C2.m.used, C2.m.ch, C2.m.dis, fun i bd b hb hbb => ⟨(C2.m.off i bd b hb hbb).1, (C2.m.off i bd b hb hbb).2.1, .inr ⟨i, bd, hb, hbb⟩⟩⟩
   ·simp [Act.put, hsz, H2]
  have hb1 := hbody (pre.map (fun x => x.1.1)) x.1 (by simpa using hlen) (fun z hz => by obtain ⟨z', _, rfl⟩ := List.mem_map.1 hz; exact z'.2.1) hPx
  have hr := awp_inR (H := H2) (l := l) (n := 1) hmix y hnd _ (fun s hs => hs) _ F' βr _ W hb1 CB
  refine wpIn_mono hr ?_
  rintro e a2 W2 ⟨s2, F2, β2, D2, hq⟩
  cases e with
  | normal =>
   obtain ⟨F3, β3, D3⟩ := hq H2 F2 β2 a2 W2 rfl D2
   have kp : ∀ b, F' b → W2.heap[b]? = W.heap[b]? := fun b hb => D3.m.frame b (C2.m.fin b hb) fun hN => by
    obtain ⟨i, bd, h1, h2⟩ := hN
    exact off i bd b h1 h2 hb
   refine ⟨⟨D3.m.size, fun j o hj ho hc => ?_⟩, fun b hb => kp b (hFF b hb), ⟨F3, β3, ?_⟩, fun b hb => (kp b (hFF b hb)).trans (hkp b hb)⟩
   · -- what is no cells lies as it lay
    refine (D3.m.frame j (Array.getElem?_eq_some_iff.1 ho).1 ?_).trans ho
    rintro ⟨i, bd, h1, h2⟩
    have hal : lookC (hs (pre.map (fun x => x.1.1))) i ≠ .dead := by rw [hβr] at h1; exact (aliveB_le h1).1
    obtain ⟨bd', h3, h4⟩ := C2.m.ch i hal
    rw [h1] at h3; cases h3
    cases hcc : lookC (hs (pre.map (fun x => x.1.1))) i with
    | dead => exact hal hcc
    | row e sz xs =>
     rw [hcc] at h4
     obtain ⟨_, _, _, h5⟩ := h4
     rcases h5 with ⟨h5, _⟩ | ⟨g', cap, cur, h6, _, h7, _⟩
     ·rw [h5] at h2; cases h2
     ·rw [h6] at h2; cases h2
      rw [ho] at h7; cases h7; cases hc
    | blk t cs =>
     rw [hcc] at h4
     obtain ⟨_, _, g', vs, h6, _, h7, _⟩ := h4
     rw [h6] at h2; cases h2
     rw [ho] at h7; cases h7; cases hc
    | mp x1 x2 x3 => exact hmp _ i x1 x2 x3 hcc
   ·have E : Ext (· < k2) F' βr W (· < n') F3 β3 W2 := ⟨fun i hi => Nat.lt_of_lt_of_le hi hk2, fun b hb => ⟨D3.f b hb, kp b hb⟩, fun i bd hi hb => D3.e i bd hi hb⟩
    have M3 := D3.m
    rw [List.map_append]
    refine ⟨fun t => RelA.mono E _ _ (RelA.narrow _ _ (look_ids hids t) (C2.t t)), ⟨Nat.le_trans C2.m.size M3.size, M3.os.trans C2.m.os, M3.tape.trans C2.m.tape, M3.output.trans C2.m.output, fun b hb hN => ?_, M3.fin, M3.used, M3.ch, M3.dis, fun i bd b hb hbb => ?_⟩, C.nt, C2.d.mono fun b hb => ⟨D3.f b hb, kp b hb⟩, fun b hb => D3.f b (C2.f b hb), fun b hb => ?_, fun i bd hi hb => C2.e i bd hi (D3.e i bd (Nat.lt_of_lt_of_le hi (by rw [show H1.k = k from hHk]; exact hk)) hb), ?_⟩
    ·refine (M3.frame b (Nat.lt_of_lt_of_le hb C2.m.size) ?_).trans (C2.m.frame b hb hN)
     rintro ⟨i, bd, h1, h2⟩
     rcases (C2.m.off i bd b h1 h2).2.2 with h3 | h3
     ·have hb' : b < H1.W.heap.size := hb; omega
     ·exact hN h3
    ·obtain ⟨h3, h4, h5⟩ := M3.off i bd b hb hbb
     refine ⟨h3, h4, ?_⟩
     rcases h5 with h5 | ⟨j, bj, h6, h7⟩
     ·exact .inl (Nat.le_trans C2.m.size h5)
     ·exact (C2.m.off j bj b h6 h7).2.2
    ·rcases D3.g b hb with h3 | h3 | ⟨j, bj, h6, h7⟩
     ·exact C2.g b h3
     ·exact .inr (.inl (Nat.le_trans C2.m.size h3))
     ·exact .inr (C2.m.off j bj b h6 h7).2.2
    ·have : H1.k = k := hHk
     change H1.k ≤ n'
     omega
  | _ => exact hq.elim
 case hdone =>
  rintro D xs W hD hS ⟨⟨F', β', C'⟩, hkp⟩ hDW
  rw [hS] at C'
  have C2 := C'.alive
  have hnF : ∀ i bd, aliveB (lookC (hs its)) β' i = some bd → bd.b ≠ some D := by
   intro i bd h1 h2
   obtain ⟨bd', h3, h4⟩ := C2.m.ch i (aliveB_le h1).1
   rw [h1] at h3; cases h3
   cases hcc : lookC (hs its) i with
   | dead => exact (aliveB_le h1).1 hcc
   | row e sz xs =>
    rw [show lookC (St.h ⟨t', hs its, n'⟩) i = _ from hcc] at h4
    obtain ⟨_, _, _, h5⟩ := h4
    rcases h5 with ⟨h5, _⟩ | ⟨g', cap, cur, h6, _, h7, _⟩
    ·rw [h5] at h2; cases h2
    ·rw [h6] at h2; cases h2
     rw [hDW] at h7; cases h7
   | blk t cs =>
    rw [show lookC (St.h ⟨t', hs its, n'⟩) i = _ from hcc] at h4
    obtain ⟨_, _, g', vs, h6, _, h7, _⟩ := h4
    rw [h6] at h2; cases h2
    rw [hDW] at h7; cases h7
   | mp x1 x2 x3 => exact hmp _ i x1 x2 x3 hcc
  have E : Ext (· < n') F' (aliveB (lookC (hs its)) β') W (· < n') (fun b => F' b ∨ b = D) (aliveB (lookC (hs its)) β') W := ⟨fun _ h => h, fun b hb => ⟨.inl hb, rfl⟩, fun _ _ _ h => h⟩
  have M := C2.m
  refine ⟨⟨t', hs its, n'⟩, fun b => F' b ∨ b = D, aliveB (lookC (hs its)) β', ⟨fun t => RelA.mono E _ _ (C2.t t), ⟨M.size, M.os, M.tape, M.output, M.frame, ?_, M.used, fun id hd => ?_, M.dis, fun i bd b hb hbb => ?_⟩, C2.nt, ?_, fun b hb => .inl (C'.f b (C.f b hb)), fun b hb => ?_, C2.e, C2.k⟩, hdone⟩
  ·rintro b (hb | rfl)
   ·exact M.fin b hb
   ·exact (Array.getElem?_eq_some_iff.1 hDW).1
  ·obtain ⟨bd, hb, hc⟩ := M.ch id hd
   exact ⟨bd, hb, hc.mono E fun g _ => rfl⟩
  ·obtain ⟨h1, h2, h3⟩ := M.off i bd b hb hbb
   exact ⟨fun h => h.elim h1 fun e => hnF i bd hb (by rw [hbb, e]), h2, h3⟩
  ·obtain ⟨Ds, h1, h2, h3⟩ := C2.d
   refine ⟨D :: Ds, by rw [List.map_cons, ← h1], List.nodup_cons.2 ⟨fun hm => ?_, h2⟩, fun E hE => ?_⟩
   ·have := hds D (by rw [h1]; exact List.mem_map.2 ⟨D, hm, rfl⟩); omega
   ·rcases List.mem_cons.1 hE with rfl | hE
    ·exact ⟨.inr rfl, Nat.le_trans C.m.size hD, hDW⟩
    ·exact ⟨.inl (h3 E hE).1, (h3 E hE).2⟩
  ·rcases hb with hb | rfl
   ·rcases C'.g b hb with h | h
    ·exact C.g b h
    ·exact .inr h
   ·exact .inr (.inl (Nat.le_trans C.m.size hD))
 case hstop => intro D c pre W _ _ h _; exact h.elim
end Go.Proofs.YthiddmncjafklaaGreat
namespace Go.Proofs.YthiddmncjafklaaGreat
set_option linter.all false
open Go.RowKit Go.Shelf
set_option maxRecDepth 100000
def partC {α : Type} (xs : List α) (m k : Nat) : List α := (xs.drop (k * m)).take m
set_option maxHeartbeats 2000000 in
theorem chunk1_in {α : Type} (l : Nat) (b1 p1 b2 p2 b o len cap m cnt : Nat) (Kp : World → World → Prop) (hK0 : ∀ W, Kp W W) (hKd : ∀ W, Kp W W.drew) (hKt : ∀ {A B C : World}, Kp A B → Kp B C → Kp A C) (W : World) (ad : Option Addr) (had : 0 < cnt → ad = some ⟨b, o, none⟩) (hKc : ∀ W', Kp W W' → W'.cell? ⟨b1, p1, none⟩ = W.cell? ⟨b1, p1, none⟩ ∧ W'.cell? ⟨b2, p2, none⟩ = W.cell? ⟨b2, p2, none⟩) (hm : 1 ≤ m) (hml : m ≤ 4611686018427387903) (hlen : len = cnt * m) (hl : len ≤ 4611686018427387903) (hcap : len ≤ cap) (A : List α) (hA : A.length = cnt) (enc : α → Value) (hE : ∀ k (hk : k < A.length), enc (A[k]) = .slice (some ⟨b, o + k * m, none⟩) m m) (J Jx : List α → World → Prop) (hJd : ∀ pre W, J pre W → J pre W.drew)
 (hY : ∀ pre x W, J pre W → pre.length < cnt → YieldAt Fence.wide 1 Tryz.prog l #[enc x] W fun e W' => (e = .returned (.bool true) ∧ J (pre ++ [x]) W' ∧ Kp W W') ∨ (e = .returned (.bool false) ∧ Jx (pre ++ [x]) W'))
 (h1 : W.cell? ⟨b1, p1, none⟩ = some (.slice ad len cap)) (h2 : W.cell? ⟨b2, p2, none⟩ = some (.int .i64 m)) (h0 : J [] W) :
 CallsIn Fence.wide 2 Tryz.prog 120 #[.func (.yield l) #[] #[], .pointer (some ⟨b1, p1, none⟩), .pointer (some ⟨b2, p2, none⟩)] W fun e W' => (∃ v, e = .returned v) ∧ ((∃ ys, ys = A ∧ J ys W') ∨ (∃ pre, True ∧ Jx pre W')) := by
 refine callsIn_of_wp Tryz.func120 rfl trivial ?_ rfl
 simp only [Tryz.ntmps120, List.size_toArray, List.length_cons, List.length_nil, Nat.reduceAdd, Nat.reduceSub, Array.replicate_succ, Array.replicate_zero, List.push_toArray, List.append_toArray, List.nil_append, List.cons_append]
 gi_wp2
 gi_loopw [4] (fun i wr => ∃ k : Nat, k ≤ cnt ∧ i = .int .i64 (k * m : Nat) ∧ J (A.take k) wr ∧ Kp W wr)
  (fun i _ => len - (intOf i).toNat)
 case atStart => exact ⟨0, Nat.zero_le _, by simp, h0, hK0 _⟩
 case round =>
  obtain ⟨k, hk, rfl, hJs, hnx⟩ := hrel
  obtain ⟨c1, c2⟩ := hKc _ hnx
  rw [h1] at c1
  rw [h2] at c2
  by_cases hlt : k < cnt
  ·obtain rfl := had (by omega)
   have hkm : k * m + m ≤ len := by
    rw [hlen]
    calc k * m + m = (k + 1) * m := by rw [Nat.add_mul]; omega
     _ ≤ cnt * m := Nat.mul_le_mul_right _ hlt
   have hE1 := hE k (by omega)
   obtain ⟨fn, tmps, assign, body, hy, hR⟩ := hY _ (A[k]'(by omega)) wr.drew (hJd _ _ hJs) (by rw [List.length_take]; omega)
   rw [hE1] at hy
   have hnd := hKt hnx (hKd wr)
   obtain ⟨d1, d2⟩ := hKc _ hnd
   rw [h1] at d1
   rw [h2] at d2
   gi_wp2
   gi_region
   all_goals (try go_bits)
   gi_wp2
   refine hR.mono ?_
   have htk : A.take k ++ [A[k]'(by omega)] = A.take (k + 1) := (List.take_succ_eq_append_getElem (by omega)).symm
   rintro e W3 (⟨rfl, hJ3, hk3⟩ | ⟨rfl, hJx3⟩)
   · -- the round goes on
    rw [htk] at hJ3
    have hn3 := hKt hnd hk3
    obtain ⟨e1, e2⟩ := hKc _ hn3
    rw [h1] at e1
    rw [h2] at e2
    gi_wp2
    go_roundw
    case rel => exact ⟨k + 1, by omega, by rw [Nat.add_mul]; simp, hJ3, hn3⟩
    case measure => simp [intOf]; omega
   ·gi_wp2
    refine bodyPost_ret (results_none rfl _ _ _) rfl ?_
    exact ⟨⟨_, rfl⟩, .inr ⟨_, trivial, hJx3⟩⟩
  ·obtain rfl : k = cnt := by omega
   gi_wp2
   go_end0
   refine ⟨⟨_, rfl⟩, .inl ⟨_, rfl, ?_⟩⟩
   rwa [List.take_of_length_le (by omega)] at hJs
theorem partC_len {α : Type} (xs : List α) (m cnt k : Nat) (h : xs.length = cnt * m) (hk : k < cnt) : (partC xs m k).length = m := by
 unfold partC
 have : k * m + m ≤ cnt * m := by
  calc k * m + m = (k + 1) * m := by rw [Nat.add_mul]; omega
   _ ≤ cnt * m := Nat.mul_le_mul_right _ hk
 simp; omega
theorem chunk_iter (xs : List Int) (m cnt : Nat) (hm : 1 ≤ m) (hml : m ≤ 4611686018427387903) (hlen : xs.length = cnt * m) (hl : xs.length ≤ 4611686018427387903) : IterOk Tryz.prog 120 [.fel 1 [[.sl 1 (xs.map i64P)]] 0 0, .fel 1 [[.v (.int .i64 m)]] 0 0] (fun c : List Int => .sl 1 (c.map i64P)) (fun c => c.length = m) ((List.range cnt).map (partC xs m)) := by
 refine ⟨enters Tryz.func120 (by kernel_rfl) rfl, ?_⟩
 intro w U F β lb hF hb l J Jx W hW hJ hJx hY h0
 simp only [RelL, RelA] at hb
 obtain ⟨u1, us1, rfl, ⟨b1, p1, rfl, hf1, he1⟩, u2, us2, rfl, ⟨b2, p2, rfl, hf2, he2⟩, rfl⟩ := hb
 simp only [RelE, RelC, RelP, and_true, true_and] at he1 he2
 obtain ⟨-, v1, hv1, ad, cap, rfl, hcap, hcm, hx⟩ := he1
 obtain ⟨-, v2, hv2, rfl, -⟩ := he2
 simp only [Nat.zero_mul, Nat.add_zero, Nat.zero_add] at *
 rw [List.length_map] at hv1 hcap
 have hwb : ∀ {b}, F b → b < W.heap.size := fun hb => Nat.lt_of_lt_of_le (hF _ hb) hW.size
 have c1 := (hW.cell (p := ⟨b1, p1, none⟩) (hF _ hf1)).trans hv1
 have c2 := (hW.cell (p := ⟨b2, p2, none⟩) (hF _ hf2)).trans hv2
 obtain ⟨b, o, hbo⟩ : ∃ b o, 0 < cnt → ad = some ⟨b, o, none⟩ ∧ F b ∧ RelE w F b 1 o (xs.map i64P) := by
  rcases hx with hx | ⟨b, o, h1, h2, h3⟩
  ·refine ⟨0, 0, fun hc => ?_⟩
   have hx0 : xs.length = 0 := by simpa using congrArg List.length hx
   have := Nat.mul_pos hc (show 0 < m by omega); omega
  ·exact ⟨b, o, fun _ => ⟨h1, h2, h3⟩⟩
 let α := {x : List Int × Value // x.1.length = m ∧ RelP w F (.sl 1 (x.1.map i64P)) x.2}
 have item : ∀ k, k < cnt → (partC xs m k).length = m ∧ RelP w F (.sl 1 ((partC xs m k).map i64P)) (.slice (some ⟨b, o + k * m, none⟩) m m) := by
  intro k hk
  have hpl := partC_len xs m cnt k hlen hk
  obtain ⟨_, hFb, hE⟩ := hbo (by omega)
  refine ⟨hpl, ?_⟩
  simp only [RelP, List.length_map, hpl]
  refine ⟨_, m, rfl, Nat.le_refl _, by unfold maxLen; omega, .inr ⟨b, o + k * m, rfl, hFb, RelE.of fun i cs hi => ?_⟩⟩
  unfold partC at hi
  rw [List.getElem?_map, List.getElem?_take] at hi
  split at hi
  ·rw [List.getElem?_drop, ← List.getElem?_map] at hi
   have := hE.at _ _ hi
   rw [Nat.mul_one] at this ⊢
   rw [Nat.add_assoc]; exact this
  ·simp at hi
 let A : List α := List.ofFn (n := cnt) fun k => ⟨(partC xs m k, .slice (some ⟨b, o + k * m, none⟩) m m), item k k.2⟩
 refine (chunk1_in l b1 p1 b2 p2 b o xs.length cap m cnt (fun W W' => ∀ b, F b → W'.heap[b]? = W.heap[b]?) (fun _ _ _ => rfl) (fun _ _ _ => rfl) (fun h1 h2 b hb => (h2 b hb).trans (h1 b hb)) W ad (fun h => (hbo h).1)
  (fun W' hk => ⟨World.cell?_of_block (hk _ hf1), World.cell?_of_block (hk _ hf2)⟩) hm hml hlen hl hcap A (by simp [A]) (fun x : α => x.1.2) (fun k hk => by simp [A]) J Jx (fun pre W h => hJ _ _ _ none h ⟨rfl, rfl, rfl, Nat.le_refl _, fun _ _ _ => rfl⟩ (fun r e => by cases e)) ?_ c1 c2 h0).mono ?_
 ·intro pre x W1 hj hlt
  exact hY pre x W1 hj (by simpa using hlt)
 ·rintro e W' ⟨he, ⟨ys, rfl, hj⟩ | ⟨pre, _, hj⟩⟩
  ·refine ⟨he, .inl ⟨_, ?_, hj⟩⟩
   refine List.ext_getElem (by simp [A]) fun i i1 i2 => by simp [A]
  ·exact ⟨he, .inr ⟨_, trivial, hj⟩⟩
end Go.Proofs.YthiddmncjafklaaGreat
namespace Go.Proofs.YthiddmncjafklaaGreat
set_option linter.all false
open Go.RowKit
def nearB (c : Cel) : Bool := decide (-1000 ≤ c.x ∧ c.x ≤ 1000 ∧ -1000 ≤ c.y ∧ c.y ≤ 1000)
def lq (n m k : Nat) : Nat := (2 * k * m + n) / (2 * n)
def lr (n m k : Nat) : Nat := (2 * k * m + n) % (2 * n)
theorem lq_step (n m k : Nat) (hn : 0 < n) (hm : m ≤ n) : (2 * n ≤ lr n m k + 2 * m → lq n m (k + 1) = lq n m k + 1 ∧ lr n m (k + 1) = lr n m k + 2 * m - 2 * n) ∧ (lr n m k + 2 * m < 2 * n → lq n m (k + 1) = lq n m k ∧ lr n m (k + 1) = lr n m k + 2 * m) := by
 have e : 2 * (k + 1) * m + n = (2 * k * m + n) + 2 * m := by rw [Nat.mul_add, Nat.add_mul]; omega
 have hd := Nat.div_add_mod (2 * k * m + n) (2 * n)
 have hlt : (2 * k * m + n) % (2 * n) < 2 * n := Nat.mod_lt _ (by omega)
 unfold lq lr
 rw [e]
 constructor
 ·intro h
  have e2 : 2 * k * m + n + 2 * m = ((2 * k * m + n) % (2 * n) + 2 * m - 2 * n) + 2 * n * ((2 * k * m + n) / (2 * n) + 1) := by rw [Nat.mul_add]; omega
  rw [e2, Nat.add_mul_div_left _ _ (by omega), Nat.add_mul_mod_self_left, Nat.div_eq_of_lt (by omega), Nat.mod_eq_of_lt (by omega)]
  omega
 ·intro h
  have e2 : 2 * k * m + n + 2 * m = ((2 * k * m + n) % (2 * n) + 2 * m) + 2 * n * ((2 * k * m + n) / (2 * n)) := by omega
  rw [e2, Nat.add_mul_div_left _ _ (by omega), Nat.add_mul_mod_self_left, Nat.div_eq_of_lt (by omega), Nat.mod_eq_of_lt (by omega)]
  omega
theorem lq_zero (n m : Nat) : lq n m 0 = 0 := by
 unfold lq
 rcases Nat.eq_zero_or_pos n with rfl | h
 ·simp
 ·rw [Nat.mul_zero, Nat.zero_mul, Nat.zero_add]; exact Nat.div_eq_of_lt (by omega)
theorem lr_zero (n m : Nat) : lr n m 0 = n := by
 unfold lr
 rcases Nat.eq_zero_or_pos n with rfl | h
 ·simp
 ·rw [Nat.mul_zero, Nat.zero_mul, Nat.zero_add]; exact Nat.mod_eq_of_lt (by omega)
theorem lr_lt (n m k : Nat) (h : 0 < n) : lr n m k < 2 * n := Nat.mod_lt _ (by omega)
theorem lq_le (n m k : Nat) (hn : 0 < n) (hk : k ≤ n) : lq n m k ≤ m := by
 unfold lq
 have : 2 * k * m ≤ 2 * n * m := Nat.mul_le_mul_right _ (by omega)
 have : (2 * k * m + n) / (2 * n) < m + 1 := (Nat.div_lt_iff_lt_mul (by omega)).2 (by rw [Nat.add_mul, Nat.mul_comm m]; omega)
 omega
def lpt (a : Cel) (sx sy : Int) (X Y k : Nat) : Cel := if Y ≤ X then ⟨a.x + sx * k, a.y + sy * lq X Y k⟩ else ⟨a.x + sx * lq Y X k, a.y + sy * k⟩
def lpts (a : Cel) (sx sy : Int) (X Y n : Nat) : List Cel := (List.range (n + 1)).map (lpt a sx sy X Y)
theorem nearB_true {c : Cel} (h : nearB c = true) : -1000 ≤ c.x ∧ c.x ≤ 1000 ∧ -1000 ≤ c.y ∧ c.y ≤ 1000 := by simpa [nearB] using h
theorem lpts_snoc (a : Cel) (sx sy : Int) (X Y n : Nat) : lpts a sx sy X Y (n + 1) = lpts a sx sy X Y n ++ [lpt a sx sy X Y (n + 1)] := by simp [lpts, List.range_succ]
theorem lpts_len (a : Cel) (sx sy : Int) (X Y n : Nat) : (lpts a sx sy X Y n).length = n + 1 := by simp [lpts]
theorem lpt_zero (a : Cel) (sx sy : Int) (X Y : Nat) : lpt a sx sy X Y 0 = a := by simp [lpt, lq_zero]
theorem lpt_near (a : Cel) (sx sy : Int) (X Y k : Nat) (h1 : sx = -1 ∨ sx = 0 ∨ sx = 1) (h2 : sy = -1 ∨ sy = 0 ∨ sy = 1) (hX : X ≤ 2000) (hY : Y ≤ 2000) (hk : k ≤ max X Y) (ha : nearB a = true) :
 -3000 ≤ (lpt a sx sy X Y k).x ∧ (lpt a sx sy X Y k).x ≤ 3000 ∧ -3000 ≤ (lpt a sx sy X Y k).y ∧ (lpt a sx sy X Y k).y ≤ 3000 := by
 have hn := nearB_true ha
 have key : ∀ (s : Int) (q : Nat), (s = -1 ∨ s = 0 ∨ s = 1) → q ≤ 2000 → -2000 ≤ s * q ∧ s * q ≤ 2000 := by
  intro s q hs hq
  rcases hs with rfl | rfl | rfl <;> omega
 unfold lpt
 split
 ·have hq : lq X Y k ≤ 2000 := by
   rcases Nat.eq_zero_or_pos X with rfl | h
   ·obtain rfl : k = 0 := by omega
    rw [lq_zero]; omega
   ·have := lq_le X Y k h (by omega); omega
  have a1 := key sx k h1 (by omega)
  have a2 := key sy _ h2 hq
  simp only; omega
 ·have hq : lq Y X k ≤ 2000 := by have := lq_le Y X k (by omega) (by omega); omega
  have a1 := key sx _ h1 hq
  have a2 := key sy k h2 (by omega)
  simp only; omega
theorem lpt_stepX (a : Cel) (sx sy : Int) (X Y k : Nat) (h : Y ≤ X) (h0 : 0 < X) : lpt a sx sy X Y (k + 1) = ⟨(lpt a sx sy X Y k).x + sx, if 2 * X ≤ lr X Y k + 2 * Y then (lpt a sx sy X Y k).y + sy else (lpt a sx sy X Y k).y⟩ := by
 simp only [lpt, if_pos h]
 have hs := lq_step X Y k h0 h
 have e1 : a.x + sx * ((k + 1 : Nat) : Int) = a.x + sx * k + sx := by rw [Int.natCast_add, Int.mul_add]; omega
 rw [e1]
 by_cases hc : 2 * X ≤ lr X Y k + 2 * Y
 ·rw [if_pos hc, (hs.1 hc).1, Int.natCast_add, Int.mul_add]; congr 1; omega
 ·rw [if_neg hc, (hs.2 (by omega)).1]
theorem lpt_stepY (a : Cel) (sx sy : Int) (X Y k : Nat) (h : X < Y) : lpt a sx sy X Y (k + 1) = ⟨if 2 * Y ≤ lr Y X k + 2 * X then (lpt a sx sy X Y k).x + sx else (lpt a sx sy X Y k).x, (lpt a sx sy X Y k).y + sy⟩ := by
 simp only [lpt, if_neg (show ¬ Y ≤ X by omega)]
 have hs := lq_step Y X k (by omega) (by omega)
 have e1 : a.y + sy * ((k + 1 : Nat) : Int) = a.y + sy * k + sy := by rw [Int.natCast_add, Int.mul_add]; omega
 rw [e1]
 by_cases hc : 2 * Y ≤ lr Y X k + 2 * X
 ·rw [if_pos hc, (hs.1 hc).1, Int.natCast_add, Int.mul_add]; congr 1; omega
 ·rw [if_neg hc, (hs.2 (by omega)).1]
theorem mul_bound (n : Nat) (y : Int) (N Y : Nat) (hn : n ≤ N) (hy : -(Y : Int) ≤ y ∧ y ≤ Y) : -((N * Y : Nat) : Int) ≤ (n : Int) * y ∧ (n : Int) * y ≤ ((N * Y : Nat) : Int) := by
 have h1 : (n : Int) * y ≤ (n : Int) * Y := Int.mul_le_mul_of_nonneg_left hy.2 (by omega)
 have h2 : (n : Int) * (-(Y : Int)) ≤ (n : Int) * y := Int.mul_le_mul_of_nonneg_left hy.1 (by omega)
 have h3 : (n : Int) * Y ≤ ((N * Y : Nat) : Int) := by rw [Int.natCast_mul]; exact Int.mul_le_mul_of_nonneg_right (by omega) (by omega)
 rw [Int.mul_neg] at h2
 omega
def Beats (n T t z1 z2 : Int) : Prop := (n * z1 - T).natAbs < (n * z2 - T).natAbs ∨ ((n * z1 - T).natAbs = (n * z2 - T).natAbs ∧ (z1 - t).natAbs < (z2 - t).natAbs)
theorem best_beats (n m k : Nat) (f t s : Int) (hn : 0 < n) (_ : m ≤ n) (hk : k ≤ n) (hs : s = 1 ∨ s = -1) (ht : t = f + s * m) (z : Int) (_ : min f t ≤ z ∧ z ≤ max f t) (hne : z ≠ f + s * lq n m k) :
 Beats n (n * f + k * (t - f)) t (f + s * lq n m k) z := by
 have hq := lq_le n m k hn hk
 have hd := Nat.div_add_mod (2 * k * m + n) (2 * n)
 have hlt : (2 * k * m + n) % (2 * n) < 2 * n := Nat.mod_lt _ (by omega)
 have hq2 : lq n m k = (2 * k * m + n) / (2 * n) := rfl
 rw [← hq2] at hd
 generalize (2 * k * m + n) % (2 * n) = r at hd hlt
 generalize lq n m k = q at *
 have hd2 : 2 * ((n : Int) * q) + r = 2 * ((k : Int) * m) + n := by
  have : ((2 * n * q + r : Nat) : Int) = ((2 * k * m + n : Nat) : Int) := by rw [hd]
  simp only [Int.natCast_add, Int.natCast_mul] at this
  rw [Int.mul_assoc, Int.mul_assoc] at this
  exact this
 obtain ⟨e, he⟩ : ∃ e : Int, z = f + s * q + e := ⟨z - (f + s * q), by omega⟩
 have he0 : e ≠ 0 := by intro h; apply hne; rw [he, h]; omega
 have hE : (1 ≤ e → (n : Int) ≤ n * e) ∧ (e ≤ -1 → (n : Int) * e ≤ -n) := by
  constructor
  ·intro h
   have := Int.mul_le_mul_of_nonneg_left (c := (n : Int)) h (by omega)
   omega
  ·intro h
   have := Int.mul_le_mul_of_nonneg_left (c := (n : Int)) h (by omega)
   rw [Int.mul_neg] at this
   omega
 have e1 : (n : Int) * z = n * f + n * (s * q) + n * e := by rw [he, Int.mul_add, Int.mul_add]
 have e2 : (n : Int) * (f + s * q) = n * f + n * (s * q) := by rw [Int.mul_add]
 unfold Beats
 rw [e1, e2]
 rcases hs with rfl | rfl
 ·simp only [Int.one_mul] at *
  have e3 : (k : Int) * (t - f) = k * m := by rw [ht]; congr 1; omega
  rw [e3]
  generalize (n : Int) * q = A at *
  generalize (k : Int) * m = B at *
  generalize (n : Int) * e = E at *
  generalize (n : Int) * f = F at *
  omega
 ·have e4 : (n : Int) * (-1 * (q : Int)) = -(n * q) := by rw [Int.neg_one_mul, Int.mul_neg]
  have e3 : (k : Int) * (t - f) = -(k * m) := by rw [ht, ← Int.mul_neg]; congr 1; omega
  rw [e3, e4]
  generalize (n : Int) * q = A at *
  generalize (k : Int) * m = B at *
  generalize (n : Int) * e = E at *
  generalize (n : Int) * f = F at *
  omega
theorem aside_step (n T t Q f b y : Int) (A B C D : Nat) (hA : A = (n * y - T).natAbs) (hB : B = (n * b - T).natAbs) (hC : C = (y - t).natAbs) (hD : D = (b - t).natAbs) (HI : Q < y ∨ Q = f → b = Q) (HBy : y ≠ Q → Beats n T t Q y) (HBb : b ≠ Q → Beats n T t Q b) :
 ((A < B ∨ (A = B ∧ C < D)) → (Q < y + 1 ∨ Q = f → y = Q)) ∧ (¬ (A < B ∨ (A = B ∧ C < D)) → (Q < y + 1 ∨ Q = f → b = Q)) := by
 constructor
 ·intro h1 h2
  refine Classical.byContradiction fun hne => ?_
  obtain rfl : b = Q := HI (by omega)
  have := HBy hne
  unfold Beats at this
  omega
 ·intro h1 h2
  by_cases hq : Q < y ∨ Q = f
  ·exact HI hq
  ·refine Classical.byContradiction fun hne => ?_
   obtain rfl : Q = y := by omega
   have := HBb hne
   unfold Beats at this
   omega
theorem tdiv_step (k X : Nat) (d s : Int) (hs : d.sign = s) (hn : d.natAbs = X) (hX : X ≠ 0) : ((k : Int) * d).tdiv X = s * k := by
 have e : d = s * X := by rw [← hs, ← hn]; exact (Int.sign_mul_natAbs d).symm
 rw [e, ← Int.mul_assoc, Int.mul_tdiv_cancel _ (by omega), Int.mul_comm]
theorem aside_sign (n m k : Nat) (f t s : Int) (hs : (t - f).sign = s) (hm : (t - f).natAbs = m) : ∃ s', (s' = 1 ∨ s' = -1) ∧ t = f + s' * m ∧ s' * lq n m k = s * lq n m k := by
 rcases Int.lt_trichotomy (t - f) 0 with h | h | h
 ·rw [Int.sign_eq_neg_one_of_neg h] at hs; subst hs; exact ⟨-1, .inr rfl, by omega, rfl⟩
 ·have h0 : m = 0 := by omega
  subst h0
  have hq : lq n 0 k = 0 := by
   unfold lq
   rcases Nat.eq_zero_or_pos n with rfl | hn
   ·simp
   ·rw [Nat.mul_zero, Nat.zero_add]; exact Nat.div_eq_of_lt (by omega)
  exact ⟨1, .inl rfl, by omega, by rw [hq]; simp⟩
 ·rw [Int.sign_eq_one_of_pos h] at hs; subst hs; exact ⟨1, .inl rfl, by omega, rfl⟩
end Go.Proofs.YthiddmncjafklaaGreat
namespace Go.Proofs.YthiddmncjafklaaGreat
set_option linter.all false
open Go.RowKit
set_option maxRecDepth 100000
theorem ixOf_any {α : Type} (p : α → Bool) (l : List α) : decide (0 ≤ ixOf p l) = l.any p := by
 unfold ixOf
 cases h : l.findIdx? p with
 | none =>
  have := List.findIdx?_eq_none_iff.1 h
  simp only [show ¬ (0 : Int) ≤ -1 by omega, decide_false]
  symm; rw [List.any_eq_false]; intro x hx; simp [this x hx]
 | some i =>
  obtain ⟨hi, h1, _⟩ := List.findIdx?_eq_some_iff_getElem.1 h
  simp only [Int.natCast_nonneg, decide_true]
  symm; rw [List.any_eq_true]; exact ⟨_, List.getElem_mem hi, h1⟩
theorem int_ix (F : FuncId) (a b : List AV) (l : List Int) (p : Int → Bool) (hl : l.length ≤ 9223372036854775807) (hp : ∀ n ∈ l, Spec Tryz.prog F (a ++ [I .i64 n] ++ b) [] (B (p n)) []) (ha : ∀ h, cvL [] h a = a) (hb : ∀ h, cvL [] h b = b) :
 Spec Tryz.prog 156 [.c (.sl 1 (l.map i64P)), .clo (.func F) a b] [] (I .i64 (ixOf p l)) [] := by
 refine spec_am Tryz.func156 rfl rfl mix 19 rfl [.tmp 4] Tryz.results156 (Nat.le_of_ble_eq_true rfl) ?_
 simp (etaStruct := .none) only [push_cast, DrawG, Int.cast_ofNat_Int, seval]
 refine loopI (fun k : Nat => ⟨[(8, I .i64 k), (7, I .i64 l.length), (0, .c (.sl 1 (l.map i64P))), (1, .clo (.func F) a b)], [], 0⟩) (fun k => k ≤ l.length ∧ ∀ j (hj : j < l.length), j < k → p l[j] = false) (fun k => l.length - k) 0 ⟨Nat.zero_le _, fun j _ h => by omega⟩ (To.mk [] rfl rfl List.nodup_nil trivial ?_) ?_
 ·simp (etaStruct := .none) only [push_cast, DrawG, Int.cast_ofNat_Int, seval, ha, hb]
 ·rintro k ⟨hk, hn⟩
  simp (etaStruct := .none) only [push_cast, DrawG, Int.cast_ofNat_Int, seval]
  refine cond_i (fun h => ?_) (fun h => ?_)
  ·have hlt : k < l.length := by simpa using h
   simp (etaStruct := .none) only [push_cast, DrawG, Int.cast_ofNat_Int, seval, getD_map _ _ _ hlt, i64P]
   repeat with_reducible refine obA ?_
   refine callP (hp _ (List.getElem_mem hlt)) (by simp only [cvL_append, ha, hb, cvL, cv]; exact WkL.refl _) ?_
   simp (etaStruct := .none) only [push_cast, DrawG, Int.cast_ofNat_Int, seval]
   refine cond_i (fun h => ?_) (fun h => ?_)
   ·simp (etaStruct := .none) only [push_cast, DrawG, Int.cast_ofNat_Int, seval]
    exact ret0 rfl trivial (Wk.of (by rw [ixOf_hit p l k hlt h hn]; rfl))
   ·simp (etaStruct := .none) only [push_cast, DrawG, Int.cast_ofNat_Int, seval]
    refine ⟨k + 1, ⟨by omega, fun j hj hjk => ?_⟩, by omega, To.mk [] rfl rfl List.nodup_nil trivial ?_⟩
    ·by_cases e : j = k
     ·subst e; exact h
     ·exact hn j hj (by omega)
    ·simp (etaStruct := .none) only [push_cast, DrawG, Int.cast_ofNat_Int, seval, ha, hb]
     simp (disch := omega) only [wrap_in, wk_self, tdv, tmd]
  ·have hge : k = l.length := by simp at h; omega
   subst hge
   simp (etaStruct := .none) only [push_cast, DrawG, Int.cast_ofNat_Int, seval]
   exact ret0 rfl trivial (Wk.of (by rw [ixOf_miss p l (fun j hj => hn j hj hj)]; rfl))
theorem int_any (F : FuncId) (a b : List AV) (l : List Int) (p : Int → Bool) (hl : l.length ≤ 9223372036854775807) (hp : ∀ n ∈ l, Spec Tryz.prog F (a ++ [I .i64 n] ++ b) [] (B (p n)) []) (ha : ∀ h, cvL [] h a = a) (hb : ∀ h, cvL [] h b = b) :
 Spec Tryz.prog 127 [.c (.sl 1 (l.map i64P)), .clo (.func F) a b] [] (B (l.any p)) [] := by
 refine spec_am Tryz.func127 rfl rfl mix 9 rfl [.tmp 4] Tryz.results127 (Nat.le_of_ble_eq_true rfl) ?_
 simp (etaStruct := .none) only [push_cast, DrawG, Int.cast_ofNat_Int, seval]
 refine callP (int_ix F a b l p hl hp ha hb) (by simp only [ha, hb, cvL, cv]; exact WkL.refl _) ?_
 simp (etaStruct := .none) only [push_cast, DrawG, Int.cast_ofNat_Int, seval]
 exact ret0 rfl trivial (Wk.of (by rw [ixOf_any]; rfl))
end Go.Proofs.YthiddmncjafklaaGreat
namespace Go.Proofs.YthiddmncjafklaaGreat
set_option linter.all false
open Go.RowKit
set_option maxRecDepth 100000
def within (n a b : Int) : Bool := decide (a ≤ n) && decide (n ≤ b)
theorem within_iff {n a b : Int} : within n a b = true ↔ a ≤ n ∧ n ≤ b := by unfold within; simp
theorem within_f {n a b : Int} : within n a b = false ↔ ¬ (a ≤ n ∧ n ≤ b) := by unfold within; simp
theorem between_s (n a b : Int) : Spec Tryz.prog 18 [I .i64 n, I .i64 a, I .i64 b] [] (B (within n a b)) [] := by
 refine spec_am Tryz.func18 rfl rfl mix 15 rfl [.tmp 6] Tryz.results18 (Nat.le_of_ble_eq_true rfl) ?_
 (try (refine xst ?_; try exact xtI))
 exact ret0 rfl trivial (Wk.of (congrArg B (by unfold within; first | rfl | simp)))
def fldBad (f : Fld) : Bool := !within f.w 1 40 || !within f.h 1 40
def fldForm (f : Fld) : Bool := !decide ((f.p.length : Int) = f.w * f.h) || f.p.any (fun p => decide (p < 0) || decide (4 ≤ p))
def fldE (f : Fld) : Int := if fldBad f then 1 else if fldForm f then 4 else 0
theorem fldE_ok {f : Fld} (h : fldE f = 0) : (1 ≤ f.w ∧ f.w ≤ 40) ∧ (1 ≤ f.h ∧ f.h ≤ 40) ∧ (f.p.length : Int) = f.w * f.h ∧ ∀ p ∈ f.p, 0 ≤ p ∧ p < 4 := by
 unfold fldE at h
 split at h
 ·simp at h
 ·rename_i h1
  split at h
  ·simp at h
  ·rename_i h2
   simp only [fldBad, Bool.or_eq_true, Bool.not_eq_true', not_or, Bool.not_eq_false, within_iff] at h1
   simp only [fldForm, Bool.or_eq_true, Bool.not_eq_true', decide_eq_false_iff_not, not_or, Decidable.not_not, List.any_eq_true, not_exists, not_and, decide_eq_true_eq] at h2
   exact ⟨h1.1, h1.2, h2.1, fun p hp => by have := h2.2 p hp; omega⟩
theorem side_s (n : Int) : Spec Tryz.prog 126 [I .i64 n] [] (B (within n 1 40)) [] := by
 refine spec_am Tryz.func126 rfl rfl mix 9 rfl [.tmp 2] Tryz.results126 (Nat.le_of_ble_eq_true rfl) ?_
 (try (refine xst ?_; try exact xtI))
 exact ret0 rfl trivial (Wk.of (congrArg B (by unfold within; first | rfl | simp)))
theorem fclo_s (n : Int) : Spec Tryz.prog 128 ([] ++ [I .i64 n] ++ []) [] (B (decide (n < 0) || decide (4 ≤ n))) [] := by
 refine spec_am Tryz.func128 rfl rfl mix 9 rfl [.tmp 2] Tryz.results128 (Nat.le_of_ble_eq_true rfl) ?_
 (try (refine xst ?_; try exact xtI))
 exact ret0 rfl trivial (Wk.refl _)
theorem fcheck_s (f : Fld) (hl : f.p.length ≤ 9223372036854775807) : Spec Tryz.prog 81 [fldA f] [] (I .i64 (fldE f)) [] := by
 refine spec_am Tryz.func81 rfl rfl mix 27 rfl [.tmp 2] Tryz.results81 (Nat.le_of_ble_eq_true rfl) ?_
 (try (refine xst ?_; try exact xtI))
 refine callP (side_s f.w) (WkL.refl _) ?_
 (try (refine xst ?_; try exact xtI))
 refine gcallP (fun hc => side_s f.h) (WkL.refl _) (by intro hc; (try simp (etaStruct := .none) only [push_cast, DrawG, Int.cast_ofNat_Int, seval]); (try simp_all)) ?_
 (try (refine xst ?_; try exact xtI))
 refine cond_i (fun h1 => ?_) (fun h1 => ?_)
 ·(try (refine xst ?_; try exact xtI))
  (first | (refine retA rfl (Wk.of ?_); (try simp (etaStruct := .none) only [push_cast, DrawG, Int.cast_ofNat_Int, seval]); first | done | (simp [fldE, fldBad, fldForm, *]; done) | (simp_all [fldE, fldBad, fldForm]; done)) | (refine retA rfl ?_; (try simp (etaStruct := .none) only [push_cast, DrawG, Int.cast_ofNat_Int, seval]); (try simp [fldE, fldBad, fldForm, *]); (try exact wkc)))
 ·have hw : within f.w 1 40 = true ∧ within f.h 1 40 = true := by simpa using h1
  obtain ⟨h3, h4⟩ := hw
  rw [within_iff] at h3 h4
  have hm1 : 0 ≤ f.w * f.h := Int.mul_nonneg (by omega) (by omega)
  have hm2 : f.w * f.h ≤ 40 * 40 := Int.mul_le_mul h3.2 h4.2 (by omega) (by omega)
  (try (refine xst ?_; try exact xtI))
  refine gcallP (fun hc => int_any _ [] [] f.p (fun p => decide (p < 0) || decide (4 ≤ p)) hl (fun n _ => fclo_s n) (fun _ => rfl) (fun _ => rfl)) (WkL.refl _) (by intro hc; (try simp (etaStruct := .none) only [push_cast, DrawG, Int.cast_ofNat_Int, seval]); (try simp_all)) ?_
  (try (refine xst ?_; try exact xtI))
  refine cond_i (fun h2 => ?_) (fun h2 => ?_)
  ·(try (refine xst ?_; try exact xtI))
   (first | (refine retA rfl (Wk.of ?_); (try simp (etaStruct := .none) only [push_cast, DrawG, Int.cast_ofNat_Int, seval]); first | done | (simp [fldE, fldBad, fldForm, *]; done) | (simp_all [fldE, fldBad, fldForm]; done)) | (refine retA rfl ?_; (try simp (etaStruct := .none) only [push_cast, DrawG, Int.cast_ofNat_Int, seval]); (try simp [fldE, fldBad, fldForm, *]); (try exact wkc)))
  ·(try (refine xst ?_; try exact xtI))
   (first | (refine retA rfl (Wk.of ?_); (try simp (etaStruct := .none) only [push_cast, DrawG, Int.cast_ofNat_Int, seval]); first | done | (simp [fldE, fldBad, fldForm, *]; done) | (simp_all [fldE, fldBad, fldForm]; done)) | (refine retA rfl ?_; (try simp (etaStruct := .none) only [push_cast, DrawG, Int.cast_ofNat_Int, seval]); (try simp [fldE, fldBad, fldForm, *]); (try exact wkc)))
def inF (f : Fld) (c : Cel) : Bool := within c.x 0 (f.w - 1) && within c.y 0 (f.h - 1)
theorem inF_iff {f : Fld} {c : Cel} : inF f c = true ↔ (0 ≤ c.x ∧ c.x < f.w) ∧ (0 ≤ c.y ∧ c.y < f.h) := by
 unfold inF; rw [Bool.and_eq_true, within_iff, within_iff]; omega
theorem inF_f {f : Fld} {c : Cel} : inF f c = false ↔ ¬ ((0 ≤ c.x ∧ c.x < f.w) ∧ (0 ≤ c.y ∧ c.y < f.h)) := by
 rw [← inF_iff, Bool.not_eq_true]
def placeV (f : Fld) (c : Cel) : Int := f.p.getD (c.y * f.w + c.x).toNat default
theorem place_ix {f : Fld} {c : Cel} (h : fldE f = 0) (hc : inF f c = true) : 0 ≤ c.y * f.w ∧ c.y * f.w ≤ 1600 ∧ 0 ≤ c.y * f.w + c.x ∧ c.y * f.w + c.x < f.p.length ∧ f.p.length ≤ 1600 := by
 obtain ⟨h1, h2, h3, _⟩ := fldE_ok h
 obtain ⟨h4, h5⟩ := inF_iff.1 hc
 have a1 : 0 ≤ c.y * f.w := Int.mul_nonneg (by omega) (by omega)
 have a2 : c.y * f.w ≤ (f.h - 1) * f.w := Int.mul_le_mul_of_nonneg_right (by omega) (by omega)
 have a3 : (f.h - 1) * f.w = f.w * f.h - f.w := by rw [Int.sub_mul, Int.mul_comm f.h, Int.one_mul]
 have a4 : f.w * f.h ≤ 40 * 40 := Int.mul_le_mul h1.2 h2.2 (by omega) (by omega)
 omega
def atV (f : Fld) (c : Cel) : Int × Int := if fldE f ≠ 0 then (0, fldE f) else if inF f c then (placeV f c, 0) else (0, 7)
theorem at_s (f : Fld) (c : Cel) (hl : f.p.length ≤ 9223372036854775807) : Spec Tryz.prog 140 [fldA f, celA c] [] (.tup [I .i64 (atV f c).1, I .i64 (atV f c).2]) [] := by
 refine spec_am Tryz.func140 rfl rfl mix 46 rfl [.tmp 4, .tmp 5] Tryz.results140 (Nat.le_of_ble_eq_true rfl) ?_
 (try (refine xst ?_; try exact xtI))
 refine caP (fcheck_s f hl) ?_
 (try (refine xst ?_; try exact xtI))
 refine cond_i (fun h1 => ?_) (fun h1 => ?_)
 ·(try replace h1 := xhh h1)
  (try (refine xst ?_; try exact xtI))
  (first | (refine retA rfl (Wk.of ?_); (try simp (etaStruct := .none) only [push_cast, DrawG, Int.cast_ofNat_Int, seval]); first | done | (simp [atV, placeV, *]; done) | (simp_all [atV, placeV]; done)) | (refine retA rfl ?_; (try simp (etaStruct := .none) only [push_cast, DrawG, Int.cast_ofNat_Int, seval]); (try simp [atV, placeV, *]); (try exact wkc)))
 ·(try replace h1 := xhh h1)
  obtain ⟨e1, e2, e3, e4⟩ := fldE_ok h1
  (try (refine xst ?_; try exact xtI))
  refine cond_i (fun h2 => ?_) (fun h2 => ?_)
  ·(try replace h2 := xhh h2)
   have hc : inF f c = false := inF_f.2 (by omega)
   (try (refine xst ?_; try exact xtI))
   (first | (refine retA rfl (Wk.of ?_); (try simp (etaStruct := .none) only [push_cast, DrawG, Int.cast_ofNat_Int, seval]); first | done | (simp [atV, placeV, *]; done) | (simp_all [atV, placeV]; done)) | (refine retA rfl ?_; (try simp (etaStruct := .none) only [push_cast, DrawG, Int.cast_ofNat_Int, seval]); (try simp [atV, placeV, *]); (try exact wkc)))
  ·(try replace h2 := xhh h2)
   have hc : inF f c = true := inF_iff.2 (by omega)
   obtain ⟨i1, i2, i3, i4, i5⟩ := place_ix h1 hc
   (iterate 2 ((try simp (etaStruct := .none) only [push_cast, DrawG, Int.cast_ofNat_Int, seval, getD_in _ _ _ (show (c.y * f.w + c.x).toNat < f.p.length by omega), i64P]); (try (refine xsu ?_; try exact xtI))))
   (first | (refine retA rfl (Wk.of ?_); (try simp (etaStruct := .none) only [push_cast, DrawG, Int.cast_ofNat_Int, seval]); first | done | (simp [atV, placeV, *]; done) | (simp_all [atV, placeV]; done)) | (refine retA rfl ?_; (try simp (etaStruct := .none) only [push_cast, DrawG, Int.cast_ofNat_Int, seval]); (try simp [atV, placeV, *]); (try exact wkc)))
theorem fldE_form {f : Fld} (h1 : fldBad f = false) {i : Nat} (hi : i < f.p.length) (h : within (f.p.getD i default) 0 3 = false) : fldE f = 4 := by
 have : fldForm f = true := by
  unfold fldForm
  rw [Bool.or_eq_true]
  refine .inr (List.any_eq_true.2 ⟨_, List.getElem_mem hi, ?_⟩)
  rw [getD_at _ _ hi, within_f] at h
  simp; omega
 unfold fldE; rw [h1, this]; rfl
theorem fldE_fine {f : Fld} (h1 : fldBad f = false) (h2 : (f.p.length : Int) = f.w * f.h) (h : ∀ j, j < f.p.length → within (f.p.getD j default) 0 3 = true) : fldE f = 0 := by
 have : fldForm f = false := by
  unfold fldForm
  rw [Bool.or_eq_false_iff, List.any_eq_false]
  refine ⟨by simp [h2], fun p hp => ?_⟩
  obtain ⟨i, hi, rfl⟩ := List.getElem_of_mem hp
  have := h i hi
  rw [getD_at _ _ hi, within_iff] at this
  simp; omega
 unfold fldE; rw [h1, this]; rfl
theorem fright_s (f : Fld) (hl : f.p.length ≤ 9223372036854775807) : Spec Tryz.prog 48 [fldA f] [] (I .i64 (fldE f)) [] := by
 refine spec_am Tryz.func48 rfl rfl mix 35 rfl [.tmp 2] Tryz.results48 (Nat.le_of_ble_eq_true rfl) ?_
 (try (refine xst ?_; try exact xtI))
 refine caP (between_s f.w 1 40) ?_
 (try (refine xst ?_; try exact xtI))
 refine gcP (fun hcc => between_s f.h 1 40) ?_
 (try (refine xst ?_; try exact xtI))
 refine cond_i (fun h1 => ?_) (fun h1 => ?_)
 ·(try replace h1 := xhh h1)
  have hb : fldBad f = true := by unfold fldBad; simpa using h1
  (try (refine xst ?_; try exact xtI))
  (first | (refine retA rfl (Wk.of ?_); (try simp (etaStruct := .none) only [push_cast, DrawG, Int.cast_ofNat_Int, seval]); first | done | (simp [fldE, fldForm, *]; done) | (simp_all [fldE, fldForm]; done)) | (refine retA rfl ?_; (try simp (etaStruct := .none) only [push_cast, DrawG, Int.cast_ofNat_Int, seval]); (try simp [fldE, fldForm, *]); (try exact wkc)))
 ·(try replace h1 := xhh h1)
  have hb : fldBad f = false := by unfold fldBad; simpa using h1
  have hw : within f.w 1 40 = true ∧ within f.h 1 40 = true := by simpa using h1
  obtain ⟨h3, h4⟩ := hw
  rw [within_iff] at h3 h4
  have hm1 : 0 ≤ f.w * f.h := Int.mul_nonneg (by omega) (by omega)
  have hm2 : f.w * f.h ≤ 40 * 40 := Int.mul_le_mul h3.2 h4.2 (by omega) (by omega)
  (try (refine xst ?_; try exact xtI))
  refine cond_i (fun h2 => ?_) (fun h2 => ?_)
  ·(try replace h2 := xhh h2)
   (try (refine xst ?_; try exact xtI))
   (first | (refine retA rfl (Wk.of ?_); (try simp (etaStruct := .none) only [push_cast, DrawG, Int.cast_ofNat_Int, seval]); first | done | (simp [fldE, fldForm, *]; done) | (simp_all [fldE, fldForm]; done)) | (refine retA rfl ?_; (try simp (etaStruct := .none) only [push_cast, DrawG, Int.cast_ofNat_Int, seval]); (try simp [fldE, fldForm, *]); (try exact wkc)))
  ·(try replace h2 := xhh h2)
   (try (refine xst ?_; try exact xtI))
   refine loopI (fun k : Nat => ⟨[(27, I .i64 k), (26, I .i64 f.p.length), (25, .c (.sl 1 (f.p.map i64P)))], [], 0⟩) (fun k : Nat => k ≤ f.p.length ∧ ∀ j, j < k → within (f.p.getD j default) 0 3 = true) (fun k : Nat => f.p.length - k) (0) (⟨Nat.zero_le _, fun j h => by omega⟩) (To.mk [] rfl rfl List.nodup_nil trivial ?_) ?_
   ·simp (etaStruct := .none) only [push_cast, DrawG, Int.cast_ofNat_Int, seval]
   rintro k ⟨hk, hn⟩
   (try (refine xst ?_; try exact xtI))
   refine cond_i (fun h3 => ?_) (fun h3 => ?_)
   ·(try replace h3 := xhh h3)
    have hlt : k < f.p.length := by omega
    (iterate 2 ((try simp (etaStruct := .none) only [push_cast, DrawG, Int.cast_ofNat_Int, seval, getD_in _ _ _ hlt, i64P]); (try (refine xsu ?_; try exact xtI))))
    refine caP (between_s (f.p.getD k default) 0 3) ?_
    (iterate 2 ((try simp (etaStruct := .none) only [push_cast, DrawG, Int.cast_ofNat_Int, seval, getD_in _ _ _ hlt, i64P]); (try (refine xsu ?_; try exact xtI))))
    refine cond_i (fun h4 => ?_) (fun h4 => ?_)
    ·(try replace h4 := xhh h4)
     (iterate 2 ((try simp (etaStruct := .none) only [push_cast, DrawG, Int.cast_ofNat_Int, seval, getD_in _ _ _ hlt, i64P]); (try (refine xsu ?_; try exact xtI))))
     exact ret0 rfl trivial (Wk.of (by rw [fldE_form hb hlt (by simpa using h4)]; rfl))
    ·(try replace h4 := xhh h4)
     (iterate 2 ((try simp (etaStruct := .none) only [push_cast, DrawG, Int.cast_ofNat_Int, seval, getD_in _ _ _ hlt, i64P]); (try (refine xsu ?_; try exact xtI))))
     refine ⟨k + 1, ⟨by omega, fun j hj => by rcases Nat.lt_or_ge j k with h | h; exact hn j h; rw [show j = k by omega]; simpa using h4⟩, by omega, To.mk [] rfl rfl List.nodup_nil trivial ?_⟩
     ·(iterate 2 ((try simp (etaStruct := .none) only [push_cast, DrawG, Int.cast_ofNat_Int, seval, getD_in _ _ _ hlt, i64P]); (try (refine xsu ?_; try exact xtI))))
   ·(try replace h3 := xhh h3)
    (try (refine xst ?_; try exact xtI))
    exact ret0 rfl trivial (Wk.of (by rw [fldE_fine hb (by omega) (fun j hj => hn j (by omega))]; rfl))
theorem in_s (f : Fld) (c : Cel) (hw : 0 ≤ f.w ∧ f.w ≤ 1000000) (hh : 0 ≤ f.h ∧ f.h ≤ 1000000) : Spec Tryz.prog 76 [fldA f, celA c] [] (B (inF f c)) [] := by
 refine spec_am Tryz.func76 rfl rfl mix 19 rfl [.tmp 4] Tryz.results76 (Nat.le_of_ble_eq_true rfl) ?_
 (try (refine xst ?_; try exact xtI))
 refine caP (between_s c.x 0 (f.w - 1)) ?_
 (try (refine xst ?_; try exact xtI))
 refine gcP (fun hcc => between_s c.y 0 (f.h - 1)) ?_
 (try (refine xst ?_; try exact xtI))
 (first | (refine retA rfl (Wk.of ?_); (try simp (etaStruct := .none) only [push_cast, DrawG, Int.cast_ofNat_Int, seval]); first | done | (simp [inF, *]; done) | (simp_all [inF]; done)) | (refine retA rfl ?_; (try simp (etaStruct := .none) only [push_cast, DrawG, Int.cast_ofNat_Int, seval]); (try simp [inF, *]); (try exact wkc)))
theorem place_s (f : Fld) (c : Cel) (h : fldE f = 0) (hc : inF f c = true) : Spec Tryz.prog 77 [fldA f, celA c] [] (I .i64 (placeV f c)) [] := by
 obtain ⟨i1, i2, i3, i4, i5⟩ := place_ix h hc
 have j1 := inF_iff.1 hc
 obtain ⟨e1, e2, e3, e4⟩ := fldE_ok h
 refine spec_am Tryz.func77 rfl rfl mix 17 rfl [.tmp 4] Tryz.results77 (Nat.le_of_ble_eq_true rfl) ?_
 (iterate 2 ((try simp (etaStruct := .none) only [push_cast, DrawG, Int.cast_ofNat_Int, seval, getD_in _ _ _ (show (c.y * f.w + c.x).toNat < f.p.length by omega), i64P]); (try (refine xsu ?_; try exact xtI))))
 (first | (refine retA rfl (Wk.of ?_); (try simp (etaStruct := .none) only [push_cast, DrawG, Int.cast_ofNat_Int, seval]); first | done | (simp [placeV, *]; done) | (simp_all [placeV]; done)) | (refine retA rfl ?_; (try simp (etaStruct := .none) only [push_cast, DrawG, Int.cast_ofNat_Int, seval]); (try simp [placeV, *]); (try exact wkc)))
end Go.Proofs.YthiddmncjafklaaGreat
