/- The abstract machine, part D: loads, addresses, slices; whatever writes nothing. -/
import Derived.Test.YtibknlfadoeglaaAmC
namespace Go.Proofs.Ytibknlfadoeglaa
set_option linter.all false
open Go.RowKit
section
variable {P : Program} {W : World} {N U F : Nat → Prop} {β : Nat → Option Bind} {h hT : Nat → Chunk} {w : World}
theorem MemOk.get (M : MemOk W N U F β h w) (hs : ∀ id, hT id ≠ .dead → hT id = h id) {id : Nat} {c : Chunk} (hc : hT id = c) (hd : c ≠ .dead) : ∃ bd, β id = some bd ∧ ChOk U w F β bd c := by
  subst hc
  obtain ⟨bd, h1, h2⟩ := M.ch id (by rw [← hs id hd]; exact hd)
  exact ⟨bd, h1, by rw [hs id hd]; exact h2⟩
theorem equal_succ (t : TypeId) (x y : Value) : Op.equal t x y = Op.equalIn (9999 + 1) t x y := rfl
theorem equal_ptr {t e : TypeId} (h2 : P.underlying t = some (.pointer e)) (a c : Option Addr) (hac : a = none ∨ c = none) : (Op.equal t (.pointer a) (.pointer c)).run P w = .ok (a.isNone && c.isNone) w := by
  rw [equal_succ]
  unfold Op.equalIn
  simp only [Sem.run_bind, run_underlying h2, Result.andThen_ok]
  rcases hac with rfl | rfl
  · simp
  · cases a <;> simp
theorem nilP_run (M : MemOk W N U F β h w) (hs : ∀ id, hT id ≠ .dead → hT id = h id) {z : AV} {c : Bool} (hz : nilP hT z = some c) {q : Value} (hq : RelA U w F β z q) : (c = true ∧ q = .pointer none) ∨ (c = false ∧ ∃ a, q = .pointer (some a)) := by
  unfold nilP at hz
  split at hz
  · simp only [Option.some.injEq] at hz
    exact .inl ⟨hz.symm, (relC.1 hq).1⟩
  · rename_i id i o
    split at hz
    · simp at hz
    · rename_i hc
      simp only [Option.some.injEq] at hz
      obtain ⟨bd, hb, _⟩ := M.get hs (id := id) rfl hc
      simp only [RelA] at hq
      obtain ⟨g, _, hg⟩ := hq.2.2 bd hb
      exact .inr ⟨hz.symm, _, hg⟩
  · simp only [Option.some.injEq] at hz
    simp only [RelA] at hq
    obtain ⟨b, p, hg, _⟩ := hq
    exact .inr ⟨hz.symm, _, hg⟩
  · simp at hz
theorem eq_run (M : MemOk W N U F β h w) (hs : ∀ id, hT id ≠ .dead → hT id = h id) {op : BinOp} {t : TypeId} {x y : AV} {b : Bool} (hb : eqAV P hT t x y = some b) {u v : Value} (hx : RelA U w F β x u) (hy : RelA U w F β y v) (hop : op = .eql ∨ op = .neq) (X Y : Operand) :
    (eqGuard op t X Y u v).run P w = .ok () w ∧ (Op.equal t u v).run P w = .ok b w ∧ ((∃ a c, u = .bool a ∧ v = .bool c) ∨ (∃ a c, u = .agg a ∧ v = .agg c) ∨ ∃ a c, u = .pointer a ∧ v = .pointer c ∧ (a = none ∨ c = none)) := by
  unfold eqAV at hb
  split at hb
  · rename_i a b'
    obtain ⟨rfl, _⟩ := relC.1 hx
    obtain ⟨rfl, _⟩ := relC.1 hy
    split at hb
    · rename_i ht
      obtain ⟨i, d, h1, h2, h3⟩ := ty_some ht
      simp only [TD.mk.injEq] at h3
      have hd : d = .bool := by
        have := h3.1
        cases d <;> simp [kindOf] at this
        rfl
      subst hd
      simp only [Option.some.injEq] at hb
      subst hb
      refine ⟨by rcases hop with rfl | rfl <;> rfl, ?_, .inl ⟨_, _, rfl, rfl⟩⟩
      rw [equal_succ]
      exact eqScalar_run h2 (k := 1) (.inl ⟨rfl, rfl⟩) rfl w
    · simp at hb
  · rename_i xs ys
    split at hb
    · rename_i n hn ha
      simp only [RelA] at hx hy
      obtain ⟨us, rfl, hx, _⟩ := hx
      obtain ⟨vs, rfl, hy, _⟩ := hy
      have he := eqCells_vals _ hb hx hy
      have hu : ∃ fs, P.underlying t = some (.struct fs) := by
        unfold aggT at ha
        split at ha
        · exact ⟨_, by assumption⟩
        · simp at ha
      obtain ⟨fs, hu⟩ := hu
      have hr := eqFlat_run 9 10000 (by omega) t n hn us.toList vs.toList b w he
      rw [mkV_struct hu, mkV_struct hu] at hr
      have hg : P.eqGuardType P.depth t = false := eqGuard_flat 9 P.depth (by unfold Program.depth Made.depth; omega) t n hn
      refine ⟨run_eqGuard_agg w op t X Y us vs hg, ?_, .inr (.inl ⟨_, _, rfl, rfl⟩)⟩
      exact hr
    · simp at hb
  · split at hb
    · rename_i ht
      obtain ⟨i, d, h1, h2, h3⟩ := ty_some ht
      simp only [TD.mk.injEq] at h3
      have hd : ∃ e, d = .pointer e := by
        have := h3.1
        cases d <;> simp [kindOf] at this
        exact ⟨_, rfl⟩
      obtain ⟨e, rfl⟩ := hd
      have fin := fun (a c : Option Addr) (hac : a = none ∨ c = none) => equal_ptr (w := w) h2 a c hac
      have gd : ∀ (a c : Option Addr), (eqGuard op t X Y (.pointer a) (.pointer c)).run P w = .ok () w := by
        intro a c; rcases hop with rfl | rfl <;> rfl
      split at hb
      · rename_i c hc1 hc2
        simp only [Option.some.injEq] at hb
        subst hb
        rcases nilP_run M hs hc1 hx with ⟨_, rfl⟩ | ⟨h, _⟩
        · rcases nilP_run M hs hc2 hy with ⟨rfl, rfl⟩ | ⟨rfl, a, rfl⟩
          · exact ⟨gd _ _, fin _ _ (.inl rfl), .inr (.inr ⟨_, _, rfl, rfl, .inl rfl⟩)⟩
          · exact ⟨gd _ _, fin _ _ (.inl rfl), .inr (.inr ⟨_, _, rfl, rfl, .inl rfl⟩)⟩
        · simp at h
      · rename_i c hc1 hc2
        simp only [Option.some.injEq] at hb
        subst hb
        rcases nilP_run M hs hc2 hy with ⟨_, rfl⟩ | ⟨h, _⟩
        · rcases nilP_run M hs hc1 hx with ⟨rfl, rfl⟩ | ⟨rfl, a, rfl⟩
          · exact ⟨gd _ _, fin _ _ (.inl rfl), .inr (.inr ⟨_, _, rfl, rfl, .inl rfl⟩)⟩
          · exact ⟨gd _ _, by rw [fin _ _ (.inr rfl)]; rfl, .inr (.inr ⟨_, _, rfl, rfl, .inr rfl⟩)⟩
        · simp at h
      · simp at hb
    · simp at hb
theorem bin_run (M : MemOk W N U F β h w) (hs : ∀ id, hT id ≠ .dead → hT id = h id) {op : BinOp} {t : TypeId} {x y : AV} {φ : Prop} {r : AV} (he : binAV P hT op t x y = some (φ, r)) (hφ : φ) {u v : Value} (hx : RelA U w F β x u) (hy : RelA U w F β y v) (X Y : Operand) :
    ∃ z, (do eqGuard op t X Y u v; binOp op t u v : Sem Value).run P w = .ok z w ∧ RelA U w F β r z := by
  unfold binAV at he
  split at he
  · obtain ⟨rfl, _⟩ := relC.1 hx
    obtain ⟨rfl, _⟩ := relC.1 hy
    exact int_run he hφ t X Y
  · obtain ⟨rfl, _⟩ := relC.1 hx
    obtain ⟨rfl, _⟩ := relC.1 hy
    exact str_run he hφ t X Y
  · split at he
    · rename_i b hb
      simp only [Option.some.injEq, Prod.mk.injEq] at he
      obtain ⟨rfl, rfl⟩ := he
      obtain ⟨h1, h2, h3⟩ := eq_run M hs hb hx hy (.inl rfl) X Y
      refine ⟨_, ?_, relB.2 rfl⟩
      rcases h3 with ⟨a, c, rfl, rfl⟩ | ⟨a, c, rfl, rfl⟩ | ⟨a, c, rfl, rfl, h3⟩ <;> simp [h1, binOp, h2]
    · rename_i b hb
      simp only [Option.some.injEq, Prod.mk.injEq] at he
      obtain ⟨rfl, rfl⟩ := he
      obtain ⟨h1, h2, h3⟩ := eq_run M hs hb hx hy (.inr rfl) X Y
      refine ⟨_, ?_, relB.2 rfl⟩
      rcases h3 with ⟨a, c, rfl, rfl⟩ | ⟨a, c, rfl, rfl⟩ | ⟨a, c, rfl, rfl, h3⟩ <;> simp [h1, binOp, h2]
    · simp at he
theorem un_run {op : UnOp} {x : AV} {φ : Prop} {r : AV} (he : unAV op x = some (φ, r)) {u : Value} (hx : RelA U w F β x u) : ∃ z, (Op.unary op u).run P w = .ok z w ∧ RelA U w F β r z := by
  unfold unAV at he
  split at he
  · obtain ⟨rfl, _⟩ := relC.1 hx
    split at he <;> simp only [Option.some.injEq, Prod.mk.injEq, reduceCtorEq] at he
    · obtain ⟨_, rfl⟩ := he
      exact ⟨_, by simp [Op.unary, Op.intArith], relI.2 rfl⟩
    · obtain ⟨_, rfl⟩ := he
      exact ⟨_, by simp [Op.unary, intBits_xor], relI.2 rfl⟩
  · obtain ⟨rfl, _⟩ := relC.1 hx
    split at he <;> simp only [Option.some.injEq, Prod.mk.injEq, reduceCtorEq] at he
    obtain ⟨_, rfl⟩ := he
    exact ⟨_, by simp [Op.unary], relB.2 rfl⟩
  · simp at he
theorem pick_run {t : Bool} {a b : AV} {φ : Prop} {r : AV} (he : pickAV t a b = some (φ, r)) (hφ : φ) {u v : Value} (hx : RelA U w F β a u) (hy : RelA U w F β b v) : RelA U w F β r (if t then u else v) := by
  unfold pickAV at he
  split at he <;> simp only [Option.some.injEq, Prod.mk.injEq, reduceCtorEq] at he <;> obtain ⟨rfl, rfl⟩ := he
  · simp only [RelA] at hx hy
    cases t
    · have := hy.1 (hφ.2 rfl); simp only [RelP] at this; simpa [RelA, RelP, bsel] using this
    · have := hx.1 (hφ.1 rfl); simp only [RelP] at this; simpa [RelA, RelP, bsel] using this
  · simp only [RelA] at hx
    cases t
    · simpa [RelA, RelP, bsel] using hy
    · have := hx.1 (hφ rfl); simp only [RelP] at this; simpa [RelA, RelP, bsel] using this
  · simp only [RelA] at hy
    cases t
    · have := hy.1 (hφ rfl); simp only [RelP] at this; simpa [RelA, RelP, bsel] using this
    · simpa [RelA, RelP, bsel] using hx
  · cases t
    · simpa [RelA, RelP, bsel] using hy
    · simpa [RelA, RelP, bsel] using hx
  · rw [hφ, if_pos rfl]; exact hx
  · simp only [RelA] at hx
    rw [hφ.1, if_pos rfl]; simpa only [RelA] using hx.1 hφ.2
  · rw [hφ, if_neg (by decide)]; exact hy
  · simp only [RelA] at hy
    rw [hφ.1, if_neg (by decide)]; simpa only [RelA] using hy.1 hφ.2
/-- Cells that lie in memory, as values. -/
theorem RelC.vals {b : Nat} : ∀ {cs : List PV} {o : Nat}, RelC w F b o cs → ∃ vs, RelL U w F β (cs.map .c) vs ∧ (∀ j u, vs[j]? = some u → w.cell? ⟨b, o + j, none⟩ = some u) ∧ ∀ u ∈ vs, u.oneCell' = true
  | [], o, _ => ⟨[], by simp [RelL], by simp, by simp⟩
  | x :: r, o, H => by
    simp only [RelC] at H
    obtain ⟨⟨u, h1, h2⟩, h3⟩ := H
    obtain ⟨vs, h4, h5, h6⟩ := RelC.vals h3
    refine ⟨u :: vs, by simp only [List.map_cons, RelL]; exact ⟨u, vs, rfl, by simpa only [RelA] using h2, h4⟩, fun j v hv => ?_, fun v hv => ?_⟩
    · cases j with
      | zero => simp at hv; subst hv; exact h1
      | succ j => have := h5 j v (by simpa using hv); rwa [show o + 1 + j = o + (j + 1) from by omega] at this
    · rcases List.mem_cons.1 hv with rfl | hv
      · exact h2.one
      · exact h6 v hv
theorem vals_part {xs : List AV} {vs : List Value} {b p : Nat} (h1 : RelL U w F β xs vs) (h2 : ∀ j u, vs[j]? = some u → w.cell? ⟨b, p + j, none⟩ = some u) (h3 : ∀ u ∈ vs, u.oneCell' = true) (o n : Nat) :
    RelL U w F β ((xs.drop o).take n) ((vs.drop o).take n) ∧ (∀ j u, ((vs.drop o).take n)[j]? = some u → w.cell? ⟨b, p + o + j, none⟩ = some u) ∧ ∀ u ∈ ((vs.drop o).take n), u.oneCell' = true := by
  refine ⟨(h1.drop o).take n, fun j u hu => ?_, fun u hu => h3 u (List.mem_of_mem_drop (List.mem_of_mem_take hu))⟩
  rw [List.getElem?_take] at hu
  split at hu
  · rw [List.getElem?_drop] at hu
    have := h2 _ u hu
    rwa [← Nat.add_assoc] at this
  · simp at hu
/-- What part B says of cells is so. -/
theorem cells_run (M : MemOk W N U F β h w) (hs : ∀ id, hT id ≠ .dead → hT id = h id) {n : Nat} {p : AV} {φ : Prop} {cs : List AV} (he : cellsAt hT n p = some (φ, cs)) (hφ : φ) {v : Value} (hv : RelA U w F β p v) :
    ∃ b o vs, v = .pointer (some ⟨b, o, none⟩) ∧ vs.length = n ∧ RelL U w F β cs vs ∧ (∀ j u, vs[j]? = some u → w.cell? ⟨b, o + j, none⟩ = some u) ∧ ∀ u ∈ vs, u.oneCell' = true := by
  have row : ∀ {sz : Nat} {xs : List (List PV)} {b q i o : Nat}, RelE w F b sz q xs → i < xs.length → o + n ≤ sz →
      ∃ vs : List Value, vs.length = n ∧ RelL U w F β ((((xs.getD i []).drop o).take n).map .c) vs ∧ (∀ j u, vs[j]? = some u → w.cell? ⟨b, q + i * sz + o + j, none⟩ = some u) ∧ ∀ u ∈ vs, u.oneCell' = true := by
    intro sz xs b q i o hE hi hon
    obtain ⟨h1, h2⟩ := hE.at i xs[i] (by simp [hi])
    obtain ⟨vs, h3, h4, h5⟩ := RelC.vals (U := U) (β := β) h2
    obtain ⟨h6, h7, h8⟩ := vals_part h3 h4 h5 o n
    have hl := h3.len
    have hg : xs.getD i [] = xs[i] := by simp [hi]
    refine ⟨(vs.drop o).take n, ?_, ?_, h7, h8⟩
    · simp only [List.length_map] at hl
      simp; omega
    · rw [hg, List.map_take, List.map_drop]; exact h6
  unfold cellsAt at he
  split at he
  · rename_i id i o
    split at he
    · rename_i e sz xs hc
      split at he
      · rename_i hon
        simp only [Option.some.injEq, Prod.mk.injEq] at he
        obtain ⟨rfl, rfl⟩ := he
        obtain ⟨bd, hb, hk⟩ := M.get hs hc (by simp)
        simp only [RelA] at hv
        obtain ⟨g, hg, rfl⟩ := hv.2.2 bd hb
        obtain ⟨h1, h2, h3, h4⟩ := hk
        rcases h4 with ⟨h5, _⟩ | ⟨g', cap, cur, h5, _, _, _, _, _, hE⟩
        · rw [hg] at h5; simp at h5
        · rw [hg] at h5
          cases h5
          obtain ⟨vs, hl, hr, hcell, hone⟩ := row hE hφ (Nat.le_of_ble_eq_true hon)
          refine ⟨g, i * bd.sz + o, vs, rfl, hl, hr, ?_, hone⟩
          rw [h1]; simpa using hcell
      · simp at he
    · rename_i t cs' hc
      split at he
      · rename_i hon
        simp only [Option.some.injEq, Prod.mk.injEq] at he
        obtain ⟨rfl, rfl⟩ := he
        subst hφ
        obtain ⟨bd, hb, hk⟩ := M.get hs hc (by simp)
        simp only [RelA] at hv
        obtain ⟨g, hg, rfl⟩ := hv.2.2 bd hb
        obtain ⟨h1, h2, g', vs, h3, h4, h5, h6, h7⟩ := hk
        rw [hg] at h3
        cases h3
        have hcell : ∀ j u, vs.toList[j]? = some u → w.cell? ⟨g, 0 + j, none⟩ = some u := by
          intro j u hu
          simp only [World.cell?, h5, Nat.zero_add]
          simpa using hu
        obtain ⟨k1, k2, k3⟩ := vals_part h6 hcell h7 o n
        have hl := h6.len
        have := Nat.le_of_ble_eq_true hon
        exact ⟨g, 0 * bd.sz + o, _, rfl, by simp at hl ⊢; omega, k1, by simpa using k2, k3⟩
      · simp at he
    · simp at he
  · rename_i sz xs i o
    split at he
    · rename_i hon
      simp only [Option.some.injEq, Prod.mk.injEq] at he
      obtain ⟨rfl, rfl⟩ := he
      simp only [RelA] at hv
      obtain ⟨b, q, rfl, hb, hE⟩ := hv
      obtain ⟨vs, hl, hr, hcell, hone⟩ := row hE hφ (Nat.le_of_ble_eq_true hon)
      exact ⟨b, _, vs, rfl, hl, hr, hcell, hone⟩
    · simp at he
  · simp at he
theorem load_run (M : MemOk W N U F β h w) (hs : ∀ id, hT id ≠ .dead → hT id = h id) {t : TypeId} {p x : AV} {φ : Prop} (he : loadAV P hT t p = some (φ, x)) (hφ : φ) {v : Value} (hv : RelA U w F β p v) :
    ∃ z, (Instr.loadAt t v).run P w = .ok z w ∧ RelA U w F β x z := by
  unfold loadAV at he
  split at he
  · rename_i d hd
    split at he
    · rename_i φ' cs hc
      split at he
      · rename_i y hy
        simp only [Option.some.injEq, Prod.mk.injEq] at he
        obtain ⟨rfl, rfl⟩ := he
        obtain ⟨b, o, vs, rfl, hl, hr, hcell, hone⟩ := cells_run M hs hc hφ hv
        obtain ⟨i, u, h1, h2, rfl⟩ := ty_some hd
        simp only at hl hy
        unfold valOf at hy
        split at hy
        · rename_i ha
          simp only [Option.some.injEq] at hy
          subst hy
          have hld := run_loadCells_list (P := P) (w := w) ⟨b, o, none⟩ vs (fun j u hu => by rw [Addr.add_lit]; exact hcell j u hu)
          rw [hl] at hld
          refine ⟨.agg vs.toArray, ?_, by simp only [RelA]; exact ⟨_, rfl, by simpa using hr, by simpa using hone⟩⟩
          simp [Instr.loadAt, Instr.sureAddr, loadVar, run_isAgg' h2, ha, run_sizeOf' h1, hld]
        · rename_i ha
          split at hy
          · simp only [Option.some.injEq] at hy
            subst hy
            simp only [RelL] at hr
            obtain ⟨z, _, rfl, hz, rfl⟩ := hr
            have h0 := hcell 0 z (by simp)
            refine ⟨z, ?_, hz⟩
            simp at ha
            simp only [Nat.add_zero] at h0
            simp [Instr.loadAt, Instr.sureAddr, loadVar, run_isAgg' h2, ha, h0]
          · simp at hy
      · simp at he
    · simp at he
  · simp at he
end
end Go.Proofs.Ytibknlfadoeglaa
