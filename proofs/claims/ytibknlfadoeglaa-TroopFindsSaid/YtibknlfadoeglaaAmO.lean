/- The abstract machine, part O: from a law's arguments to a contract, and back. -/
import Derived.Test.YtibknlfadoeglaaAmN
import Derived.Test.YtibknlfadoeglaaOpen
namespace Go.Proofs.Ytibknlfadoeglaa
set_option linter.all false
open Go.RowKit
theorem rel_c {w : World} {F : Nat → Prop} {b : Nat} : ∀ (ps : List PV) (vs : List Value) (o : Nat), vs.length = ps.length → (∀ (j : Nat) v, vs[j]? = some v → w.cell? ⟨b, o + j, none⟩ = some v) → (∀ (j : Nat) p u, ps[j]? = some p → vs[j]? = some u → RelP w F p u) → RelC w F b o ps
  | [], _, _, _, _, _ => by simp only [RelC]
  | p :: ps, [], _, h, _, _ => by simp at h
  | p :: ps, v :: vs, o, h, hc, hr => by
    simp only [RelC]
    refine ⟨⟨v, by have := hc 0 v rfl; simpa using this, hr 0 p v rfl rfl⟩, rel_c ps vs (o + 1) (by simpa using h) (fun j u hu => ?_) (fun j q u h1 h2 => hr (j + 1) q u h1 h2)⟩
    have := hc (j + 1) u hu
    rwa [show o + (j + 1) = o + 1 + j from by omega] at this
theorem rel_e {α : Type} {w : World} {F : Nat → Prop} {b sz : Nat} {enc : α → List Value} {pv : α → List PV} : ∀ (xs : List α) (o : Nat), (∀ i j v, (xs[i]?).bind (fun x => (enc x)[j]?) = some v → w.cell? ⟨b, o + (i * sz + j), none⟩ = some v) →
    (∀ x ∈ xs, (pv x).length = sz ∧ (enc x).length = sz ∧ ∀ (j : Nat) p u, (pv x)[j]? = some p → (enc x)[j]? = some u → RelP w F p u) → RelE w F b sz o (xs.map pv)
  | [], _, _, _ => by simp only [List.map_nil, RelE]
  | x :: xs, o, hc, hp => by
    simp only [List.map_cons, RelE]
    obtain ⟨h1, h2, h3⟩ := hp x (by simp)
    refine ⟨h1, rel_c (pv x) (enc x) o (by rw [h1, h2]) (fun j v hv => ?_) h3, rel_e xs (o + sz) (fun i j v hv => ?_) fun y hy => hp y (List.mem_cons_of_mem _ hy)⟩
    · have := hc 0 j v (by simpa using hv); simpa using this
    · have := hc (i + 1) j v (by simpa using hv)
      rwa [show o + ((i + 1) * sz + j) = o + sz + (i * sz + j) from by rw [Nat.succ_mul]; omega] at this
/-- A slice that a law is handed, as the machine's. -/
theorem rel_sl {α : Type} {w : World} {B sz bts : Nat} {enc : α → List Value} {ok : α → Prop} {s : SL α} {pv : α → List PV} (h : SLok w B sz bts enc ok s)
    (hp : ∀ x ∈ s.xs, ok x → (pv x).length = sz ∧ ∀ (j : Nat) p u, (pv x)[j]? = some p → (enc x)[j]? = some u → RelP w (· < B) p u) : RelP w (· < B) (.sl sz (s.xs.map pv)) s.val := by
  simp only [RelP]
  refine ⟨s.a, s.c, by simp [SL.val], by simpa using h.cap, h.max, ?_⟩
  rcases h.els with h1 | ⟨b, o, ha, hb, hc⟩
  · exact .inl (by rw [h1]; rfl)
  · refine .inr ⟨b, o, ha, hb, rel_e s.xs o hc fun x hx => ?_⟩
    obtain ⟨h1, h2⟩ := h.each x hx
    obtain ⟨h3, h4⟩ := hp x hx h1
    exact ⟨h3, h2, h4⟩
/-- A law that answers true. -/
theorem spec_law {P : Program} {f : FuncId} {args : List AV} (S : Spec P f args [] (B true) []) {w : World} {vs : List Value} (hr : RelL (· < 0) w (· < w.heap.size) (fun _ => none) args vs) :
    Calls P f vs.toArray w fun e w' => e = .returned (.bool true) ∧ Below w.heap.size w w' := by
  have M : MemOk w (inB fun _ => none) (· < ([] : List Chunk).length) (· < w.heap.size) (fun _ => none) (nth []) w :=
    ⟨Nat.le_refl _, rfl, rfl, rfl, fun _ _ _ => rfl, fun _ h => h, fun _ _ h => by simp at h, fun _ h => absurd rfl h, fun _ _ _ _ _ h => by simp at h, fun _ _ _ h => by simp at h⟩
  refine (S.2.2 w (· < w.heap.size) (fun _ => none) vs M hr).mono ?_
  rintro e w' ⟨v, F', β', rfl, M', hv, _⟩
  refine ⟨by rw [relB.1 hv], M'.os, M'.tape, M'.output, M'.size, fun b hb => M'.frame b hb ?_⟩
  rintro ⟨i, bd, h, _⟩
  simp at h
theorem relL_nil {U F : Nat → Prop} {β : Nat → Option Bind} {w : World} : RelL U w F β [] [] := by simp only [RelL]
theorem relL_cons {U F : Nat → Prop} {β : Nat → Option Bind} {w : World} {x : AV} {xs : List AV} {v : Value} {vs : List Value} (h1 : RelA U w F β x v) (h2 : RelL U w F β xs vs) : RelL U w F β (x :: xs) (v :: vs) := by
  simp only [RelL]; exact ⟨v, vs, rfl, h1, h2⟩
theorem relA_agg {U F : Nat → Prop} {β : Nat → Option Bind} {w : World} {xs : List AV} {vs : List Value} (h : RelL U w F β xs vs) (h1 : ∀ x ∈ vs, x.oneCell' = true) : RelA U w F β (.agg xs) (.agg vs.toArray) := by
  simp only [RelA]; exact ⟨vs.toArray, rfl, by simpa using h, by simpa using h1⟩
theorem relA_c {U F : Nat → Prop} {β : Nat → Option Bind} {w : World} {p : PV} {v : Value} (h : RelP w F p v) : RelA U w F β (.c p) v := by simp only [RelA]; exact h
theorem relP_v {F : Nat → Prop} {w : World} {v : Value} (h : v.oneCell' = true) : RelP w F (.v v) v := by simp [RelP, h]
end Go.Proofs.Ytibknlfadoeglaa
