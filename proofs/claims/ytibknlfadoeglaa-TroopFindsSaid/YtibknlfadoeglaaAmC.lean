/- The abstract machine, part C: the model's operations that write nothing do what part B says. -/
import Derived.Test.YtibknlfadoeglaaAmB
import Derived.Laws.StructEq
namespace Go.Proofs.Ytibknlfadoeglaa
set_option linter.all false
open Go.RowKit
section
variable {P : Program} {U F : Nat → Prop} {β : Nat → Option Bind} {w : World}
theorem relC {x : Value} {u : Value} : RelA U w F β (.c (.v x)) u ↔ u = x ∧ x.oneCell' = true := by simp [RelA, RelP]
theorem relI {k : IntKind} {n : Int} {u : Value} : RelA U w F β (I k n) u ↔ u = .int k n := by simp [RelA, RelP, Value.oneCell']
theorem relB {b : Bool} {u : Value} : RelA U w F β (B b) u ↔ u = .bool b := by simp [RelA, RelP, Value.oneCell']
theorem relS {s : ByteArray} {u : Value} : RelA U w F β (S s) u ↔ u = .string s := by simp [RelA, RelP, Value.oneCell']
theorem relOfV (v : Value) : RelA U w F β (ofV v) v := by
  cases v <;> simp only [ofV] <;> try (simp [RelA, RelP, Value.oneCell']; done)
  · rename_i cs
    split
    · rename_i h
      simp only [RelA]
      refine ⟨cs, rfl, RelL.of (by simp) fun i x u hx hu => ?_, fun x hx => List.all_eq_true.1 h x hx⟩
      rw [List.getElem?_map, hu] at hx
      simp only [Option.map_some, Option.some.injEq] at hx
      subst hx
      rw [relC]
      exact ⟨rfl, List.all_eq_true.1 h u (List.mem_of_getElem? hu)⟩
    · simp [RelA]
  · rename_i vs
    simp only [RelA]
    refine ⟨vs, rfl, RelL.of (by simp) fun i x u hx hu => ?_⟩
    rw [List.getElem?_map, hu] at hx
    simp only [Option.map_some, Option.some.injEq] at hx
    subst hx
    simp [RelA]
/-- The operands' values. -/
theorem relO {g : Nat → AV} {a : Act} (G : ∀ t, RelA U w F β (g t) (a.tmps.getD t undef)) (x : Operand) : RelA U w F β (getO g x) (a.eval x) := by
  cases x with
  | tmp t => exact G t
  | const v => exact relOfV v
  | global g => exact relC.2 ⟨rfl, rfl⟩
  | func f => simp [getO, RelA, RelL, Act.eval]

theorem int_beq (a b : Int) : (a == b) = decide (a = b) := by rw [Bool.eq_iff_iff, beq_iff_eq, decide_eq_true_iff]
theorem bool_beq (a b : Bool) : (a == b) = decide (a = b) := by rw [Bool.eq_iff_iff, beq_iff_eq, decide_eq_true_iff]
theorem toList_inj {a b : ByteArray} : (a.toList == b.toList) = decide (a = b) := by
  rw [Bool.eq_iff_iff, beq_iff_eq, decide_eq_true_iff]
  refine ⟨fun h => ?_, fun h => by rw [h]⟩
  rw [ByteArray.toList_eq, ByteArray.toList_eq] at h
  cases a; cases b
  simp only [ByteArray.mk.injEq] at *
  exact Array.toList_inj.1 h
theorem int_run {op : BinOp} {k k' : IntKind} {a b : Int} {φ : Prop} {x : AV} (h : intBin op k a k' b = some (φ, x)) (hφ : φ) (t : TypeId) (X Y : Operand) :
    ∃ v, (do eqGuard op t X Y (.int k a) (.int k' b); binOp op t (.int k a) (.int k' b) : Sem Value).run P w = .ok v w ∧ RelA U w F β x v := by
  have hg : (eqGuard op t X Y (.int k a) (.int k' b)) = (pure () : Sem Unit) := by cases op <;> rfl
  rw [hg]
  cases op <;> simp only [intBin, Option.some.injEq, Prod.mk.injEq] at h <;> (first | (exfalso; simp at h; done) | obtain ⟨rfl, rfl⟩ := h)
  all_goals first
    | (subst hφ; refine ⟨_, ?_, relI.2 rfl⟩; simp [binOp, Op.intArith, intBits_and, intBits_or, intBits_xor, intBits_andNot]; done)
    | (subst hφ; refine ⟨_, ?_, relB.2 rfl⟩; simp [binOp, Op.intCmp]; done)
    | (obtain ⟨rfl, hb⟩ := hφ; refine ⟨_, ?_, relI.2 rfl⟩; simp [binOp, Op.intDiv, hb]; done)
    | (refine ⟨_, ?_, relI.2 rfl⟩; simp [binOp, Op.shift, Int.not_lt.2 hφ]; done)
    | (subst hφ; refine ⟨_, ?_, relB.2 rfl⟩; simp only [binOp, Op.intCmp, Sem.run_bind, Sem.run_pure, Result.andThen_ok, if_neg, ne_eq, not_true_eq_false, not_false_eq_true, if_false]; simp [bne, int_beq]; done)
theorem str_run {op : BinOp} {a b : ByteArray} {φ : Prop} {x : AV} (h : strBin op a b = some (φ, x)) (hφ : φ) (t : TypeId) (X Y : Operand) :
    ∃ v, (do eqGuard op t X Y (.string a) (.string b); binOp op t (.string a) (.string b) : Sem Value).run P w = .ok v w ∧ RelA U w F β x v := by
  have hg : (eqGuard op t X Y (.string a) (.string b)) = (pure () : Sem Unit) := by cases op <;> rfl
  rw [hg]
  cases op <;> simp only [strBin, Option.some.injEq, Prod.mk.injEq, reduceCtorEq] at h
  · obtain ⟨rfl, rfl⟩ := h
    refine ⟨_, ?_, relS.2 rfl⟩
    have e : ¬ (((a.size + b.size : Nat) : Int) > IntKind.i64.max) := by
      have : IntKind.i64.max = 9223372036854775807 := by decide
      omega
    simp only [binOp, Op.stringOp, Sem.run_bind, Sem.run_pure, Result.andThen_ok, if_neg e]
  · obtain ⟨rfl, rfl⟩ := h
    exact ⟨_, by simp [binOp, Op.stringOp, toList_inj], relB.2 rfl⟩
  · obtain ⟨rfl, rfl⟩ := h
    exact ⟨_, by simp [binOp, Op.stringOp, toList_inj], relB.2 rfl⟩

/-! comparison cell by cell -/
/-- A value of a type, out of its cells. -/
def mkV (P : Program) (t : TypeId) (us : List Value) : Value :=
  match P.underlying t with
  | some (.struct _) => .agg us.toArray
  | _ => us.getD 0 undef
theorem eqVals_len : ∀ {ks : List Nat} {as bs : List Value} {r : Bool}, eqVals ks as bs = some r → as.length = ks.length ∧ bs.length = ks.length
  | [], [], [], _, _ => by simp
  | [], _ :: _, _, _, h => by simp [eqVals] at h
  | [], [], _ :: _, _, h => by simp [eqVals] at h
  | _ :: _, [], _, _, h => by simp [eqVals] at h
  | _ :: _, _ :: _, [], _, h => by simp [eqVals] at h
  | k :: ks, a :: as, b :: bs, r, h => by
    simp only [eqVals] at h
    split at h
    · rename_i h2
      have := eqVals_len h2
      simp [this.1, this.2]
    · simp at h
theorem eqVals_append : ∀ {ks ks' : List Nat} {as bs : List Value} {r : Bool}, eqVals (ks ++ ks') as bs = some r → ∃ x y, eqVals ks (as.take ks.length) (bs.take ks.length) = some x ∧ eqVals ks' (as.drop ks.length) (bs.drop ks.length) = some y ∧ r = (x && y)
  | [], ks', as, bs, r, h => ⟨true, r, by simp [eqVals], by simpa using h, by simp⟩
  | k :: ks, _, [], _, _, h => by simp [eqVals] at h
  | k :: ks, _, a :: as, [], _, h => by simp [eqVals] at h
  | k :: ks, ks', a :: as, b :: bs, r, h => by
    simp only [List.cons_append, eqVals, List.length_cons, List.take_succ_cons, List.drop_succ_cons] at h ⊢
    cases h1 : eqVal k a b with
    | none => rw [h1] at h; simp at h
    | some x =>
      cases h2 : eqVals (ks ++ ks') as bs with
      | none => rw [h1, h2] at h; simp at h
      | some y =>
        rw [h1, h2] at h
        simp only [Option.some.injEq] at h
        obtain ⟨p, q, e1, e2, rfl⟩ := eqVals_append h2
        exact ⟨x && p, q, by rw [e1], e2, by rw [← h, Bool.and_assoc]⟩
theorem underlying_info {t : TypeId} {d : TypeDesc} (h : P.underlying t = some d) : ∃ i, P.info? t = some i := by
  unfold Program.underlying at h
  cases hi : P.info? t with
  | none => rw [hi] at h; simp at h
  | some i => exact ⟨i, rfl⟩
theorem run_typeInfo' {t : TypeId} {i : TypeInfo} (h : P.info? t = some i) (w : World) : (typeInfo t).run P w = .ok i w := by simp [typeInfo, h]
theorem run_sizeOf' {t : TypeId} {i : TypeInfo} (h : P.info? t = some i) (w : World) : (sizeOf t).run P w = .ok i.size w := by simp [sizeOf, typeInfo, h]
theorem run_isAgg' {t : TypeId} {d : TypeDesc} (h : P.underlying t = some d) (w : World) : (isAgg t).run P w = .ok (aggD d) w := by
  cases d <;> simp [isAgg, run_underlying h, aggD]
theorem run_zero' {t : TypeId} {i : TypeInfo} {z : Value} (h : P.info? t = some i) (hz : i.zero = some z) (w : World) : (zeroValue t).run P w = .ok z w := by simp [zeroValue, typeInfo, h, hz]
theorem flat_under {d : Nat} {t : TypeId} {n : List Nat} (h : flatN P d t = some n) : ∃ u, P.underlying t = some u ∧ ((n.length = 1 ∧ aggD u = false ∧ ∀ fs, u ≠ .struct fs) ∨ ∃ fs, u = .struct fs) := by
  cases d with
  | zero => simp [flatN] at h
  | succ d =>
    simp only [flatN] at h
    cases hu : P.underlying t with
    | none => rw [hu] at h; simp at h
    | some u => rw [hu] at h; cases u <;> simp at h <;> simp [aggD] <;> simp [← h]
theorem mkV_scalar {t : TypeId} {u : TypeDesc} (hu : P.underlying t = some u) (h : ∀ fs, u ≠ .struct fs) (us : List Value) : mkV P t us = us.getD 0 undef := by
  cases u <;> first | (simp [mkV, hu]; done) | (exfalso; exact h _ rfl)
theorem mkV_struct {t : TypeId} {fs : Array Field} (hu : P.underlying t = some (.struct fs)) (us : List Value) : mkV P t us = .agg us.toArray := by
  simp [mkV, hu]
/-- A part of cells, at a flat type. -/
theorem part_flat {d : Nat} {t : TypeId} {n : List Nat} {o : Nat} (hf : flatN P d t = some n) (hn : P.cellsOf t = n.length) (us : List Value) (hl : o + n.length ≤ us.length) (w : World) :
    (part t us.toArray o).run P w = .ok (mkV P t ((us.drop o).take n.length)) w := by
  obtain ⟨u, hu, hc⟩ := flat_under hf
  obtain ⟨i, hi⟩ := underlying_info hu
  have hs : i.size = n.length := by simpa [Program.cellsOf, hi] using hn
  unfold part
  simp only [Sem.run_bind, run_isAgg' hu, Result.andThen_ok]
  rcases hc with ⟨h1, h2, h3⟩ | ⟨fs, rfl⟩
  · have hlt : o < us.length := by omega
    simp [h2, mkV_scalar hu h3, hlt, h1]
  · simp [aggD, run_sizeOf' hi, hs, mkV_struct hu, List.extract_toArray, List.take_drop]
theorem eqFields_run {q : TypeId → Option (List Nat)} {D : Nat} (hq : ∀ t n, q t = some n → ∀ (us vs : List Value) (r : Bool) (w : World), eqVals n us vs = some r → (Op.equalIn D t (mkV P t us) (mkV P t vs)).run P w = .ok r w)
    (hp : ∀ t n, q t = some n → ∃ d, flatN P d t = some n) : ∀ (fs : List Field) (o : Nat) (n : List Nat), flatFs P q o fs = some n → ∀ (us vs : List Value) (r : Bool) (w : World), us.length = o + n.length → vs.length = o + n.length → eqVals n (us.drop o) (vs.drop o) = some r →
    (Op.eqFields D us.toArray vs.toArray fs).run P w = .ok r w
  | [], o, n, h, us, vs, r, w, h1, h2, he => by
    simp only [flatFs, Option.some.injEq] at h
    subst h
    rw [List.drop_eq_nil_of_le (by simp at h1; omega), List.drop_eq_nil_of_le (by simp at h2; omega)] at he
    simp only [eqVals, Option.some.injEq] at he
    subst he
    simp [Op.eqFields]
  | f :: fs, o, n, h, us, vs, r, w, h1, h2, he => by
    simp only [flatFs] at h
    split at h
    · rename_i m hm
      split at h
      · rename_i hc
        simp only [Bool.and_eq_true, bne_iff_ne, ne_eq, Nat.beq_eq_true_eq] at hc
        obtain ⟨⟨hname, hoff⟩, hcells⟩ := hc
        replace hoff := Nat.eq_of_beq_eq_true hoff
        replace hcells := Nat.eq_of_beq_eq_true hcells
        split at h
        · rename_i k hk
          simp only [Option.some.injEq] at h
          subst h
          rw [List.length_append] at h1 h2
          obtain ⟨d, hd⟩ := hp _ _ hm
          obtain ⟨x, y, e1, e2, rfl⟩ := eqVals_append he
          have r1 := hq _ _ hm _ _ x w e1
          rw [List.drop_drop, List.drop_drop] at e2
          have r2 := eqFields_run hq hp fs _ _ hk us vs y w (by omega) (by omega) e2
          simp only [Op.eqFields, ne_eq, hname, not_false_eq_true, if_true, Sem.run_bind, hoff, part_flat (o := o) hd hcells us (by omega), part_flat (o := o) hd hcells vs (by omega), Result.andThen_ok, r1]
          cases x <;> simp [r2]
        · simp at h
      · simp at h
    · simp at h
theorem eqScalar_run {D : Nat} {t : TypeId} {u : TypeDesc} (hun : P.underlying t = some u) {k : Nat} (hk : (k = 1 ∧ u = .bool) ∨ (k = 0 ∧ ∃ j, u = .int j) ∨ (k = 2 ∧ u = .string)) {a b : Value} {r : Bool} (h : eqVal k a b = some r) (w : World) : (Op.equalIn (D + 1) t a b).run P w = .ok r w := by
  rcases hk with ⟨rfl, rfl⟩ | ⟨rfl, j, rfl⟩ | ⟨rfl, rfl⟩ <;> cases a <;> cases b <;> simp only [eqVal, reduceCtorEq, Option.some.injEq] at h
  · subst h; simp [Op.equalIn, run_underlying hun, bool_beq]
  · split at h
    · rename_i hk; subst hk; simp only [Option.some.injEq] at h; subst h; simp [Op.equalIn, run_underlying hun, int_beq]
    · simp at h
  · subst h; simp [Op.equalIn, run_underlying hun, beq_toListBytes, toList_inj]
theorem eqFlat_run : ∀ (d D : Nat), d ≤ D → ∀ (t : TypeId) (n : List Nat), flatN P d t = some n → ∀ (us vs : List Value) (r : Bool) (w : World), eqVals n us vs = some r →
    (Op.equalIn D t (mkV P t us) (mkV P t vs)).run P w = .ok r w
  | 0, _, _, t, n, h => by simp [flatN] at h
  | d + 1, 0, hD, _, _, _ => by omega
  | d + 1, D + 1, hD, t, n, h => by
    intro us vs r w he
    have hl := eqVals_len he
    simp only [flatN] at h
    split at h
    · rename_i hun
      simp only [Option.some.injEq] at h
      subst h
      match us, vs, hl, he with
      | [a], [b], _, he =>
        rw [mkV_scalar hun (by simp), mkV_scalar hun (by simp)]
        simp only [eqVals] at he
        split at he
        · rename_i x y h3 h4
          simp only [Option.some.injEq] at h4 he
          subst h4
          rw [Bool.and_true] at he
          subst he
          exact eqScalar_run hun (by simp) h3 w
        · simp at he
    · rename_i hun
      simp only [Option.some.injEq] at h
      subst h
      match us, vs, hl, he with
      | [a], [b], _, he =>
        rw [mkV_scalar hun (by simp), mkV_scalar hun (by simp)]
        simp only [eqVals] at he
        split at he
        · rename_i x y h3 h4
          simp only [Option.some.injEq] at h4 he
          subst h4
          rw [Bool.and_true] at he
          subst he
          exact eqScalar_run hun (by simp) h3 w
        · simp at he
    · rename_i hun
      simp only [Option.some.injEq] at h
      subst h
      match us, vs, hl, he with
      | [a], [b], _, he =>
        rw [mkV_scalar hun (by simp), mkV_scalar hun (by simp)]
        simp only [eqVals] at he
        split at he
        · rename_i x y h3 h4
          simp only [Option.some.injEq] at h4 he
          subst h4
          rw [Bool.and_true] at he
          subst he
          exact eqScalar_run hun (by simp) h3 w
        · simp at he
    · rename_i fs hun
      split at h
      · simp at h
      · rename_i hst
        have hfo : P.fieldsOf t = fs := by simp [Program.fieldsOf, hun]
        have := run_equalIn_struct w D t us.toArray vs.toArray (by rw [hfo]; exact hun) (by simpa using hst)
        rw [mkV_struct hun, mkV_struct hun, this, hfo]
        exact eqFields_run (fun t n hq us vs r w => eqFlat_run d D (by omega) t n hq us vs r w) (fun t n hq => ⟨d, hq⟩) _ 0 n h us vs r w (by omega) (by omega) (by simpa using he)
    · simp at h
theorem eqGuard_flatFs {q : TypeId → Option (List Nat)} {D : Nat} (hq : ∀ t n, q t = some n → P.eqGuardType D t = false) : ∀ (fs : List Field) (o : Nat) (n : List Nat), flatFs P q o fs = some n → ∀ f ∈ fs, P.eqGuardType D f.type = false
  | [], _, _, _ => by simp
  | f :: fs, o, n, h => by
    simp only [flatFs] at h
    split at h
    · rename_i m hm
      split at h
      · split at h
        · rename_i k hk
          intro g hg
          rcases List.mem_cons.1 hg with rfl | hg
          · exact hq _ _ hm
          · exact eqGuard_flatFs hq fs _ _ hk g hg
        · simp at h
      · simp at h
    · simp at h
theorem eqGuard_flat : ∀ (d D : Nat), d ≤ D → ∀ (t : TypeId) (n : List Nat), flatN P d t = some n → P.eqGuardType D t = false
  | 0, _, _, t, n, h => by simp [flatN] at h
  | d + 1, 0, hD, _, _, _ => by omega
  | d + 1, D + 1, hD, t, n, h => by
    simp only [flatN] at h
    unfold Program.eqGuardType
    split at h
    · rename_i hu; simp [hu]
    · rename_i hu; simp [hu]
    · rename_i hu; simp [hu]
    · rename_i fs hu
      split at h
      · simp at h
      · simp only [hu]
        have := eqGuard_flatFs (fun t n hq => eqGuard_flat d D (by omega) t n hq) _ _ _ h
        rw [← Array.any_toList]
        simp only [List.any_eq_false, Bool.and_eq_true, bne_iff_ne, ne_eq, not_and, Bool.not_eq_true]
        exact fun f hf _ => this f hf
    · simp at h
theorem eqCells_vals : ∀ (n : List Nat) {xs ys : List AV} {r : Bool}, eqCells n xs ys = some r → ∀ {us vs : List Value}, RelL U w F β xs us → RelL U w F β ys vs → eqVals n us vs = some r := by
  intro n
  induction n with
  | nil =>
    intro xs ys r h us vs h1 h2
    unfold eqCells at h
    split at h
    · simp only [RelL] at h1 h2; subst h1 h2; simpa [eqVals] using h
    · simp_all
    · simp at h
  | cons k ks ih =>
    intro xs ys r h us vs h1 h2
    unfold eqCells at h
    split at h
    · simp_all
    · rename_i k' ks' a as b bs heq
      simp only [List.cons.injEq] at heq
      obtain ⟨rfl, rfl⟩ := heq
      simp only [RelL] at h1 h2
      obtain ⟨u, us', rfl, ha, h1⟩ := h1
      obtain ⟨v, vs', rfl, hb, h2⟩ := h2
      rw [relC] at ha hb
      obtain ⟨rfl, _⟩ := ha
      obtain ⟨rfl, _⟩ := hb
      simp only [eqVals]
      split at h
      · rename_i x y h3 h4
        rw [ih h4 h1 h2, h3]
        exact h
      · simp at h
    · simp at h
end
end Go.Proofs.Ytibknlfadoeglaa
