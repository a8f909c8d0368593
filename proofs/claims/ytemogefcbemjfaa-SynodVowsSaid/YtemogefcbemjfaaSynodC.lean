/- Package synod: what is chosen. -/
import Derived.Test.YtemogefcbemjfaaSynodW
namespace Go.Proofs.Ytemogefcbemjfaa
open Go.RowKit
/-- The first of the greatest. -/
def Fst (l : List Vow) (i : Nat) (x : Vow) : Prop := l[i]? = some x ∧ (∀ y ∈ l, y.b ≤ x.b) ∧ ∀ j y, j < i → l[j]? = some y → y.b < x.b
theorem Fst.uniq {l : List Vow} {i i' : Nat} {x x' : Vow} (h : Fst l i x) (h' : Fst l i' x') : x = x' := by
  obtain ⟨h1, h2, h3⟩ := h
  obtain ⟨g1, g2, g3⟩ := h'
  rcases Nat.lt_trichotomy i i' with c | c | c
  · have a1 := g3 i x c h1
    have a2 := h2 x' (List.mem_of_getElem? g1)
    omega
  · subst c; rw [h1] at g1; exact Option.some.inj g1
  · have a1 := h3 i' x' c g1
    have a2 := g2 x (List.mem_of_getElem? h1)
    omega
theorem Fst.any : ∀ l : List Vow, l ≠ [] → ∃ i x, Fst l i x
  | [], h => absurd rfl h
  | [a], _ => ⟨0, a, rfl, by simp, fun j y hj _ => absurd hj (by omega)⟩
  | a :: b :: l, _ => by
    obtain ⟨i, x, h1, h2, h3⟩ := Fst.any (b :: l) (by simp)
    by_cases h : x.b ≤ a.b
    · refine ⟨0, a, rfl, fun y hy => ?_, fun j y hj _ => absurd hj (by omega)⟩
      rcases List.mem_cons.1 hy with rfl | hy
      · omega
      · have := h2 y hy; omega
    · refine ⟨i + 1, x, by simpa using h1, fun y hy => ?_, fun j y hj hy => ?_⟩
      · rcases List.mem_cons.1 hy with rfl | hy
        · omega
        · exact h2 y hy
      · cases j with
        | zero => simp at hy; subst hy; omega
        | succ j => exact h3 j y (by omega) (by simpa using hy)
/-- What is chosen of what was heard. -/
def BestV (l : List Vow) (v r : Int) : Prop := (∃ i x, Fst l i x ∧ x.b ≠ 0 ∧ r = x.v) ∨ ((∀ i x, Fst l i x → x.b = 0) ∧ r = v)
theorem BestV.uniq {l : List Vow} {v r r' : Int} (h : BestV l v r) (h' : BestV l v r') : r = r' := by
  rcases h with ⟨i, x, h1, h2, h3⟩ | ⟨h1, h2⟩ <;> rcases h' with ⟨j, y, g1, g2, g3⟩ | ⟨g1, g2⟩
  · rw [h3, g3, h1.uniq g1]
  · exact absurd (g1 i x h1) h2
  · exact absurd (h1 j y g1) g2
  · rw [h2, g2]
/-- A vow in a block of its own. -/
def VowAt (w : World) (h : Nat) (x : Vow) : Prop := w.heap[h]? = some (Obj.cells #[.int .i64 x.p, .int .i64 x.b, .int .i64 x.v] 66)
theorem VowAt.cells {w : World} {h : Nat} {x : Vow} (H : VowAt w h x) : w.cell? ⟨h, 0, none⟩ = some (.int .i64 x.p) ∧ w.cell? ⟨h, 1, none⟩ = some (.int .i64 x.b) ∧ w.cell? ⟨h, 2, none⟩ = some (.int .i64 x.v) := by
  unfold VowAt at H
  refine ⟨?_, ?_, ?_⟩ <;> simp [World.cell?, H]
theorem VowAt.thaw {w : World} {h : Nat} {x : Vow} (H : VowAt w h x) (j : Nat) : w.frozen? ⟨h, j, none⟩ = false := by
  unfold VowAt at H
  simp [World.frozen?, H]
theorem VowAt.new (w : World) (x : Vow) : VowAt (w.alloc (Obj.cells #[.int .i64 x.p, .int .i64 x.b, .int .i64 x.v] 66)) w.heap.size x := by
  show (w.heap.push _)[w.heap.size]? = _
  simp
theorem VowAt.lt {w : World} {h : Nat} {x : Vow} (H : VowAt w h x) : h < w.heap.size := by
  have := (Array.getElem?_eq_some_iff.1 H).1
  exact this
theorem VowAt.alloc {w : World} {h : Nat} {x : Vow} (H : VowAt w h x) (o : Obj) : VowAt (w.alloc o) h x := by
  have := H.lt
  unfold VowAt at *
  show (w.heap.push _)[h]? = _
  rw [Array.getElem?_push, if_neg (by omega)]; exact H
theorem VowAt.set {w : World} {h : Nat} {x : Vow} (H : VowAt w h x) (y : Vow) : VowAt (((w.setCell ⟨h, 0, none⟩ (.int .i64 y.p)).setCell ⟨h, 1, none⟩ (.int .i64 y.b)).setCell ⟨h, 2, none⟩ (.int .i64 y.v)) h y := by
  unfold VowAt at *
  have h1 := heap_setCell_same w h 0 _ _ (.int .i64 y.p) H
  have h2 := heap_setCell_same _ h 1 _ _ (.int .i64 y.b) h1
  have h3 := heap_setCell_same _ h 2 _ _ (.int .i64 y.v) h2
  exact h3
/-- So far x is greatest, from the side of index k. -/
def SoFar (l : List Vow) (k : Nat) (x : Vow) (j : Nat) : Prop := x.b ≠ 0 ∧ ∀ m y, m < j → l[m]? = some y → y.b ≤ x.b ∧ (k ≤ m ∨ y.b < x.b)
theorem SoFar.all {l : List Vow} {k : Nat} {x : Vow} (hx : l[k]? = some x) : SoFar l k x l.length ↔ Fst l k x ∧ x.b ≠ 0 := by
  constructor
  · rintro ⟨h0, h⟩
    refine ⟨⟨hx, fun y hy => ?_, fun j y hj hy => ?_⟩, h0⟩
    · obtain ⟨m, hm, rfl⟩ := List.getElem_of_mem hy
      exact (h m _ hm (List.getElem?_eq_getElem hm)).1
    · have := (h j y (List.getElem?_eq_some_iff.1 hy).1 hy).2; omega
  · rintro ⟨⟨_, h1, h2⟩, h0⟩
    refine ⟨h0, fun m y hm hy => ⟨h1 y (List.mem_of_getElem? hy), ?_⟩⟩
    by_cases hk : k ≤ m
    · exact .inl hk
    · exact .inr (h2 m y (by omega) hy)
theorem SoFar.step {l : List Vow} {k : Nat} {x : Vow} {j : Nat} (hj : j < l.length) : SoFar l k x (j + 1) ↔ SoFar l k x j ∧ l[j].b ≤ x.b ∧ (k ≤ j ∨ l[j].b < x.b) := by
  constructor
  · rintro ⟨h0, h⟩
    exact ⟨⟨h0, fun m y hm hy => h m y (by omega) hy⟩, h j _ (by omega) (List.getElem?_eq_getElem hj)⟩
  · rintro ⟨⟨h0, h⟩, h1⟩
    refine ⟨h0, fun m y hm hy => ?_⟩
    by_cases e : m = j
    · subst e; rw [List.getElem?_eq_getElem hj] at hy; obtain rfl := Option.some.inj hy; exact h1
    · exact h m y (by omega) hy

set_option maxRecDepth 20000 in
set_option maxHeartbeats 400000 in
theorem choose_any (a : Option Addr) (c : Nat) (xs : List Vow) (B : Nat) (v : Int) (w : World) (he : Els w B a 3 Vow.enc xs) (hlen : xs.length ≤ 500) (hB : B ≤ w.heap.size) :
    Calls Try.prog 51 #[.slice a xs.length c, .int .i64 v] w fun e w' => (∃ r, e = .returned (.int .i64 r) ∧ BestV xs v r) ∧ Below w.heap.size w w' := by
  by_cases h0 : xs.length = 0
  · go_enter Try.func51, Try.ntmps51
    go_wp2_with fail
    go_returns
    obtain rfl := List.eq_nil_of_length_eq_zero h0
    exact ⟨⟨v, rfl, .inr ⟨fun i x h => by simp [Fst] at h, rfl⟩⟩, by go_grown⟩
  · have he0 := he.get 0 (by omega)
    obtain ⟨b, o, rfl, hb, hc⟩ := he0
    have c0 := hc 0 _ rfl
    have c1 := hc 1 _ rfl
    have c2 := hc 2 _ rfl
    have HE := PLift.up he
    clear hc he
    simp only [Nat.zero_mul, Nat.zero_add, Nat.add_zero] at c0 c1 c2
    go_enter Try.func51, Try.ntmps51
    go_wp2_with fail
    go_loopw [17] (fun i wr => ∃ (k m : Nat) (x : Vow), k ≤ xs.length ∧ i = .int .i64 k ∧ Hid (VowAt wr w.heap.size x ∧ Below w.heap.size w wr ∧ xs[m]? = some x ∧ (∀ j y, j < k → xs[j]? = some y → y.b ≤ x.b) ∧ (∀ j y, j < m → xs[j]? = some y → y.b < x.b))) (fun i _ => xs.length - (intOf i).toNat)
    case atStart => exact ⟨0, 0, xs[0], by omega, rfl, VowAt.new _ _, below_lit _ _, by simp, fun j y hj => absurd hj (by omega), fun j y hj => absurd hj (by omega)⟩
    case round =>
      obtain ⟨k, m, x, hk, rfl, hI⟩ := hrel
      obtain ⟨f0, f1, f2⟩ := hI.out.1.cells
      have hl0 := hI.out.1.lt
      have z0 := hI.out.1.thaw 0
      have z1 := hI.out.1.thaw 1
      have z2 := hI.out.1.thaw 2
      by_cases hlt : k < xs.length
      · have he1 := HE.down.below hI.out.2.1 hB
        obtain ⟨b', o', e1, hb', hc⟩ := he1.get k hlt
        simp only [Option.some.injEq, Addr.mk.injEq, and_true] at e1
        obtain ⟨rfl, rfl⟩ := e1
        have d0 := hc 0 _ rfl
        have d1 := hc 1 _ rfl
        have d2 := hc 2 _ rfl
        simp only [← Nat.add_assoc, Nat.add_zero] at d0 d1 d2
        have HI := PLift.up hI.out
        clear hc he1 hI
        by_cases hgt : x.b < xs[k].b
        · go_wp2_with fail
          go_roundw
          case rel =>
            obtain ⟨i0, ib, i1, i2, i3⟩ := HI.down
            refine ⟨k + 1, k, xs[k], by omega, by go_num, (i0.set _).alloc _, (((ib.setCell (Nat.le_refl _) _).setCell (Nat.le_refl _) _).setCell (Nat.le_refl _) _).alloc (by have := ib.size; simp; omega) _, List.getElem?_eq_getElem hlt, fun j y hj hy => ?_, fun j y hj hy => ?_⟩
            · by_cases hjk : j = k
              · subst hjk; rw [List.getElem?_eq_getElem hlt] at hy; obtain rfl := Option.some.inj hy; exact Int.le_refl _
              · have := i2 j y (by omega) hy; omega
            · have := i2 j y hj hy; omega
          case measure => simp [intOf]; omega
        · go_wp2_with fail
          go_roundw
          case rel =>
            obtain ⟨i0, ib, i1, i2, i3⟩ := HI.down
            refine ⟨k + 1, m, x, by omega, by go_num, i0.alloc _, ib.alloc (by omega) _, i1, fun j y hj hy => ?_, i3⟩
            by_cases hjk : j = k
            · subst hjk; rw [List.getElem?_eq_getElem hlt] at hy; obtain rfl := Option.some.inj hy; omega
            · exact i2 j y (by omega) hy
          case measure => simp [intOf]; omega
      · obtain rfl : k = xs.length := by omega
        have HI := PLift.up hI.out
        clear hI
        have hF : Fst xs m x := by
          obtain ⟨_, _, i1, i2, i3⟩ := HI.down
          refine ⟨i1, fun y hy => ?_, i3⟩
          obtain ⟨j, hj, rfl⟩ := List.getElem_of_mem hy
          exact i2 j _ hj (List.getElem?_eq_getElem hj)
        have HF := PLift.up hF
        clear hF
        by_cases hz : x.b = 0
        · go_wp2_with fail
          go_returns
          exact ⟨⟨v, rfl, .inr ⟨fun i y hy => by rw [hy.uniq HF.down]; exact hz, rfl⟩⟩, HI.down.2.1⟩
        · go_wp2_with fail
          go_returns
          exact ⟨⟨x.v, rfl, .inl ⟨m, x, HF.down, hz, rfl⟩⟩, HI.down.2.1⟩
set_option maxRecDepth 20000 in
set_option maxHeartbeats 400000 in
theorem bound_any (a : Option Addr) (c : Nat) (xs : List Vow) (B : Nat) (v : Int) (w : World) (he : Els w B a 3 Vow.enc xs) (hlen : xs.length ≤ 500) (hB : B ≤ w.heap.size) :
    Calls Try.prog 52 #[.slice a xs.length c, .int .i64 v] w fun e w' => (∃ r, e = .returned (.int .i64 r) ∧ BestV xs v r) ∧ Below w.heap.size w w' := by
  have HE := PLift.up he
  clear he
  go_enter Try.func52, Try.ntmps52
  go_wp2_with fail
  go_loopw [12] (fun i wr => ∃ (k : Nat), k ≤ xs.length ∧ i = .int .i64 k ∧ Hid (Below w.heap.size w wr ∧ ∀ j x, j < k → Fst xs j x → x.b = 0)) (fun i _ => xs.length - (intOf i).toNat)
  case atStart => exact ⟨0, by omega, rfl, Below.refl _ _, fun j y hj => absurd hj (by omega)⟩
  case round =>
    obtain ⟨k, hk, rfl, hI⟩ := hrel
    by_cases hlt : k < xs.length
    · have hwr := hI.out.1.size
      have he1 := HE.down.below hI.out.1 hB
      obtain ⟨b, o, rfl, hb', hc⟩ := he1.get k hlt
      have d0 := hc 0 _ rfl
      have d1 := hc 1 _ rfl
      have d2 := hc 2 _ rfl
      simp only [← Nat.add_assoc, Nat.add_zero] at d0 d1 d2
      have HI := PLift.up hI.out
      have HE1 := PLift.up he1
      clear hc he1 hI
      obtain ⟨u, rfl⟩ : ∃ u : World, u = wr := ⟨_, rfl⟩
      go_wp2_with fail
      go_loopw [7, 22] (fun g i wi => ∃ (j : Nat) (g' : Bool), j ≤ xs.length ∧ i = .int .i64 j ∧ g = .bool g' ∧ Hid ((g' = true ↔ SoFar xs k xs[k] j) ∧ VowAt wi u.heap.size xs[k] ∧ Below u.heap.size u wi)) (fun _ i _ => xs.length - (intOf i).toNat)
      case atStart => exact ⟨0, _, by omega, rfl, rfl, by simp [SoFar, bne_iff_ne], VowAt.new _ _, below_lit _ _⟩
      case round =>
        obtain ⟨j, g', hj, rfl, rfl, hJ⟩ := hrel
        have hl0 := hJ.out.2.1.lt
        obtain ⟨f0, f1, f2⟩ := hJ.out.2.1.cells
        by_cases hjl : j < xs.length
        · have he2 := HE1.down.below hJ.out.2.2 (by omega)
          obtain ⟨b', o', e1, hb'', hc⟩ := he2.get j hjl
          simp only [Option.some.injEq, Addr.mk.injEq, and_true] at e1
          obtain ⟨rfl, rfl⟩ := e1
          have q0 := hc 0 _ rfl
          have q1 := hc 1 _ rfl
          have q2 := hc 2 _ rfl
          simp only [← Nat.add_assoc, Nat.add_zero] at q0 q1 q2
          have HJ := PLift.up hJ.out
          clear hc he2 hJ
          have hst := PLift.up (SoFar.step (l := xs) (k := k) (x := xs[k]) hjl)
          cases g'
          · go_wp2_with fail
            go_roundw
            case rel => exact ⟨j + 1, _, by omega, by go_num, rfl, by rw [hst.down, ← HJ.down.1]; simp; try omega, HJ.down.2.1.alloc _, HJ.down.2.2.alloc (by have := HJ.down.2.2.size; omega) _⟩
            case measure => simp [intOf]; omega
          · by_cases h1 : xs[j].b ≤ xs[k].b
            · by_cases h2 : k ≤ j
              · go_wp2_with fail
                go_roundw
                case rel => exact ⟨j + 1, _, by omega, by go_num, rfl, by rw [hst.down, ← HJ.down.1]; simp; try omega, HJ.down.2.1.alloc _, HJ.down.2.2.alloc (by have := HJ.down.2.2.size; omega) _⟩
                case measure => simp [intOf]; omega
              · by_cases h3 : xs[j].b < xs[k].b
                · go_wp2_with fail
                  go_roundw
                  case rel => exact ⟨j + 1, _, by omega, by go_num, rfl, by rw [hst.down, ← HJ.down.1]; simp; try omega, HJ.down.2.1.alloc _, HJ.down.2.2.alloc (by have := HJ.down.2.2.size; omega) _⟩
                  case measure => simp [intOf]; omega
                · go_wp2_with fail
                  go_roundw
                  case rel => exact ⟨j + 1, _, by omega, by go_num, rfl, by rw [hst.down, ← HJ.down.1]; simp; try omega, HJ.down.2.1.alloc _, HJ.down.2.2.alloc (by have := HJ.down.2.2.size; omega) _⟩
                  case measure => simp [intOf]; omega
            · go_wp2_with fail
              go_roundw
              case rel => exact ⟨j + 1, _, by omega, by go_num, rfl, by rw [hst.down, ← HJ.down.1]; simp; try omega, HJ.down.2.1.alloc _, HJ.down.2.2.alloc (by have := HJ.down.2.2.size; omega) _⟩
              case measure => simp [intOf]; omega
        · obtain rfl : j = xs.length := by omega
          have HJ := PLift.up hJ.out
          clear hJ
          have hall := PLift.up (SoFar.all (l := xs) (k := k) (x := xs[k]) (List.getElem?_eq_getElem hlt))
          cases g'
          · go_wp2_with fail
            go_roundw
            case rel =>
              refine ⟨k + 1, by omega, by go_num, HI.down.1.trans (HJ.down.2.2.mono HI.down.1.size), fun i x hi hF => ?_⟩
              by_cases e : i = k
              · subst e
                by_cases hz : x.b = 0
                · exact hz
                · have hx : x = xs[i] := by have := hF.1; rw [List.getElem?_eq_getElem hlt] at this; exact (Option.some.inj this).symm
                  subst hx
                  have := HJ.down.1.2 (hall.down.2 ⟨hF, hz⟩)
                  simp at this
              · exact HI.down.2 i x (by omega) hF
            case measure => simp [intOf]; omega
          · go_wp2_with fail
            go_returns
            have h := hall.down.1 (HJ.down.1.1 rfl)
            exact ⟨⟨_, rfl, .inl ⟨k, xs[k], h.1, h.2, rfl⟩⟩, HI.down.1.trans (HJ.down.2.2.mono HI.down.1.size)⟩
    · obtain rfl : k = xs.length := by omega
      have HI := PLift.up hI.out
      clear hI
      go_wp2_with fail
      go_returns
      exact ⟨⟨v, rfl, .inr ⟨fun i x hF => HI.down.2 i x (by have := (List.getElem?_eq_some_iff.1 hF.1).1; exact this) hF, rfl⟩⟩, HI.down.1⟩
end Go.Proofs.Ytemogefcbemjfaa
