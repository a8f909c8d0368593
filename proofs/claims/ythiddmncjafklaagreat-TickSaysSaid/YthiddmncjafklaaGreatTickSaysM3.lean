/- Lemmas for the proof of tickSays.proved. -/
import Derived.Test.YthiddmncjafklaaGreatTickSaysM2
import Derived.MapKept
import Derived.Scope
import Derived.RangeFuncLeaves
import Derived.RangeFuncRecord
import Derived.ControlIn
import Derived.RangeFuncNested
namespace Go.Proofs.YthiddmncjafklaaGreat
set_option linter.all false
open Go.RowKit
section
variable {P : Program} {W : World} {N U F : Nat → Prop} {β : Nat → Option Bind} {h hT : Nat → Chunk} {w : World}
def KeyTy (P : Program) (kt : TypeId) (agg : Bool) (n : Nat) : Prop :=
 (agg = false ∧ n = 1 ∧ ∃ k, P.underlying kt = some (.int k)) ∨ (agg = true ∧ (∃ fs, P.underlying kt = some (.struct fs)) ∧ flatN P 9 kt = some (List.replicate n 0))
def intV (k : List Int) : List Value := k.map (.int .i64)
theorem eqVals_ints : ∀ (a b : List Int), a.length = b.length → eqVals (List.replicate a.length 0) (intV a) (intV b) = some (decide (a = b))
 | [], [], _ => by simp [eqVals, intV]
 | x :: a, y :: b, hl => by
  have hl' : a.length = b.length := by simpa using hl
  have := eqVals_ints a b hl'
  simp only [intV] at this
  simp only [intV, List.length_cons, List.replicate_succ, List.map_cons, eqVals, eqVal, if_true, this]
  rw [Option.some.injEq, Bool.eq_iff_iff]; simp
 | [], _ :: _, hl => by simp at hl
 | _ :: _, [], hl => by simp at hl
theorem key_mkV {kt : TypeId} {n : Nat} {fs : Array Field} (h : P.underlying kt = some (.struct fs)) (k : List Int) : keyV true k = mkV P kt (intV k) := by
 rw [mkV_struct h]; rfl
theorem sameBits_int (n : Nat) (k : IntKind) (a : Int) : Instr.sameBits n (.int k a) (.int k a) = true := by cases n <;> simp [Instr.sameBits]
theorem sameBits_key (n : Nat) (agg : Bool) (k : List Int) : Instr.sameBits (n + 1) (keyV agg k) (keyV agg k) = true := by
 cases agg with
 | false => exact sameBits_int _ _ _
 | true =>
  simp only [keyV, if_true, Instr.sameBits, Bool.and_eq_true, List.all_eq_true]
  refine ⟨by simp, fun p hp => ?_⟩
  have key : ∀ (l : List Int) (p : Value × Value), p ∈ (l.map (Value.int IntKind.i64)).zip (l.map (Value.int IntKind.i64)) → Instr.sameBits n p.1 p.2 = true := by
   intro l
   induction l with
   | nil => intro p hp; simp at hp
   | cons a r ih =>
    intro p hp
    simp only [List.map_cons, List.zip_cons_cons, List.mem_cons] at hp
    rcases hp with rfl | hp
    ·exact sameBits_int _ _ _
    ·exact ih p hp
  exact key k p (by simpa using hp)
theorem stays_run (agg : Bool) (k : List Int) (w : World) : (Instr.keyThatStays (keyV agg k) (keyV agg k)).run P w = .ok (keyV agg k) w := by
 simp [Instr.keyThatStays, sameBits_key]
theorem equal_key {kt : TypeId} {agg : Bool} {n : Nat} (T : KeyTy P kt agg n) {a b : List Int} (ha : a.length = n) (hb : b.length = n) (w : World) : (Op.equal kt (keyV agg a) (keyV agg b)).run P w = .ok (decide (a = b)) w := by
 rcases T with ⟨rfl, rfl, k, hu⟩ | ⟨rfl, ⟨fs, hu⟩, hf⟩
 ·obtain ⟨x, rfl⟩ := List.length_eq_one_iff.1 ha
  obtain ⟨y, rfl⟩ := List.length_eq_one_iff.1 hb
  have hf : flatN P 9 kt = some [0] := by simp only [flatN, hu]
  have e1 : ∀ z : Int, keyV false [z] = mkV P kt (intV [z]) := fun z => by rw [mkV_scalar hu (by simp)]; rfl
  rw [e1, e1]
  exact eqFlat_run 9 10000 (by omega) kt _ hf _ _ _ w (eqVals_ints [x] [y] rfl)
 ·rw [key_mkV (n := n) hu, key_mkV (n := n) hu]
  subst ha
  exact eqFlat_run 9 10000 (by omega) kt _ hf _ _ _ w (eqVals_ints a b hb.symm)
def mfind (k : List Int) : Nat → List (List Int × Int) → Option (Nat × Int)
 | _, [] => none
 | i, (k', v) :: r => if k = k' then some (i, v) else mfind k (i + 1) r
theorem asking_run {kt : TypeId} {agg : Bool} {n : Nat} (T : KeyTy P kt agg n) {k : List Int} (hk : k.length = n) (w : World) : ∀ (es : List (List Int × Int)) (i j : Nat), (∀ e ∈ es, e.1.length = n) →
 (Instr.findAsking kt (keyV agg k) (entsF agg j es) i).run P w = .ok ((mfind k i es).map fun p => (p.1, .int .i64 p.2)) w
 | [], _, _, _ => by simp [entsF, Instr.findAsking, mfind]
 | (k', v) :: r, i, j, he => by
  have h1 := equal_key T hk (he (k', v) (by simp)) w
  have h2 := asking_run T hk w r (i + 1) (j + 1) fun e h => he e (by simp [h])
  simp only [entsF, Instr.findAsking, mfind, Sem.run_bind, h1, Result.andThen_ok]
  by_cases e : k = k'
  ·simp [e]
  ·simp [e, h2]
theorem now_run {k : IntKind} {x : List Int} (hx : x.length = 1) : ∀ (es : List (List Int × Int)) (i j : Nat), (∀ e ∈ es, e.1.length = 1) →
 Instr.findNow (.int k) (keyV false x) (entsF false j es) i = some ((mfind x i es).map fun p => (p.1, .int .i64 p.2))
 | [], _, _, _ => by simp [entsF, Instr.findNow, mfind]
 | (k', v) :: r, i, j, he => by
  have h2 := now_run (k := k) hx r (i + 1) (j + 1) fun e h => he e (by simp [h])
  obtain ⟨a, rfl⟩ := List.length_eq_one_iff.1 hx
  obtain ⟨b, hb⟩ := List.length_eq_one_iff.1 (he (k', v) (by simp))
  simp only at hb
  subst hb
  simp only [entsF, Instr.findNow, mfind, keyV, Bool.false_eq_true, if_false, List.headD_cons, Instr.sameNow, if_true] at h2 ⊢
  by_cases e : a = b
  ·simp [e]
  ·rw [beq_eq_false_iff_ne.2 e]; simp [e, h2]
theorem find_run {kt : TypeId} {agg : Bool} {n : Nat} (T : KeyTy P kt agg n) {k : List Int} (hk : k.length = n) (w : World) (es : List (List Int × Int)) (he : ∀ e ∈ es, e.1.length = n) :
 (Instr.findKey kt (keyV agg k) (entsF agg 0 es)).run P w = .ok ((mfind k 0 es).map fun p => (p.1, .int .i64 p.2)) w := by
 rcases T with ⟨rfl, rfl, q, hu⟩ | ⟨rfl, ⟨fs, hu⟩, hf⟩
 ·exact MapKept.run_findKey hu (now_run hk es 0 0 he)
 ·have hA := asking_run (.inr ⟨rfl, ⟨fs, hu⟩, hf⟩) hk w es 0 0 he
  simp only [Instr.findKey, Sem.run_bind, run_underlying hu, Result.andThen_ok]
  cases es with
  | nil => simp [entsF, Instr.findNow, mfind]
  | cons e r =>
   obtain ⟨k', v⟩ := e
   have : Instr.findNow (.struct fs) (keyV true k) (entsF true 0 ((k', v) :: r)) 0 = none := by simp [entsF, Instr.findNow, Instr.sameNow]
   rw [this]; exact hA
theorem check_flat : ∀ (d D : Nat), d ≤ D → ∀ (t : TypeId) (n : List Nat), flatN P d t = some n → ∀ (us : List Value), us.length = n.length → ∀ (e : Bool) (w : World), (Instr.checkKey e D t (mkV P t us)).run P w = .ok () w
 | 0, _, _, t, n, h => by simp [flatN] at h
 | d + 1, 0, hD, _, _, _ => by omega
 | d + 1, D + 1, hD, t, n, h => by
  intro us hl e w
  have sc : ∀ u, P.underlying t = some u → (∀ fs, u ≠ .struct fs) → (∀ e l, u ≠ .array l e) → (∀ m, u ≠ .interface m) → (Instr.checkKey e (D + 1) t (mkV P t us)).run P w = .ok () w := by
   intro u hu h1 h2 h3
   unfold Instr.checkKey
   simp only [Sem.run_bind, run_underlying hu, Result.andThen_ok]
   cases u <;> simp_all
  simp only [flatN] at h
  split at h
  ·rename_i hu; exact sc _ hu (by simp) (by simp) (by simp)
  ·rename_i hu; exact sc _ hu (by simp) (by simp) (by simp)
  ·rename_i hu; exact sc _ hu (by simp) (by simp) (by simp)
  ·rename_i fs hu
   split at h
   ·simp at h
   ·rw [mkV_struct hu]
    unfold Instr.checkKey
    simp only [Sem.run_bind, run_underlying hu, Result.andThen_ok]
    rw [← Array.forIn_toList]
    have key : ∀ (l : List Field) (o : Nat) (m : List Nat), flatFs P (flatN P d) o l = some m → o + m.length ≤ us.length →
     ((forIn l PUnit.unit fun (f : Field) (_ : PUnit) => (do
       if f.name ≠ "_" then
        Instr.checkKey e D f.type (← part f.type us.toArray f.offset)
        pure (ForInStep.yield PUnit.unit)
       else pure (ForInStep.yield PUnit.unit) : Sem (ForInStep PUnit))) : Sem PUnit).run P w = .ok PUnit.unit w := by
     intro l
     induction l with
     | nil => intro o m _ _; simp
     | cons f r ih =>
      intro o m hm ho
      simp only [flatFs] at hm
      split at hm
      ·rename_i n' hn'
       split at hm
       ·rename_i hc
        simp only [Bool.and_eq_true, bne_iff_ne, ne_eq] at hc
        have ho1 := Nat.eq_of_beq_eq_true hc.1.2
        have hn1 := Nat.eq_of_beq_eq_true hc.2
        split at hm
        ·rename_i m' hm'
         simp only [Option.some.injEq] at hm
         subst hm
         simp only [List.length_append] at ho
         have p1 := part_flat (o := o) hn' hn1 us (by omega) w
         have c1 := check_flat d D (by omega) f.type n' hn' ((us.drop o).take n'.length) (by simp; omega) e w
         have hi := ih (o + n'.length) m' hm' (by omega)
         rw [List.forIn_cons]
         rw [if_pos hc.1.1]
         simp only [Sem.run_bind, ho1, p1, Result.andThen_ok, c1, Sem.run_pure]
         exact hi
        ·simp at hm
       ·simp at hm
      ·simp at hm
    rw [key fs.toList 0 n h (by omega)]; rfl
  ·simp at h
theorem mfind_at (k : List Int) : ∀ (es : List (List Int × Int)) (j i : Nat) (v : Int), mfind k j es = some (i, v) → j ≤ i ∧ es[i - j]? = some (k, v)
 | [], _, _, _, h => by simp [mfind] at h
 | (k', v') :: r, j, i, v, h => by
  simp only [mfind] at h
  split at h
  ·rename_i e
   simp only [Option.some.injEq, Prod.mk.injEq] at h
   obtain ⟨rfl, rfl⟩ := h
   subst e
   simp
  ·obtain ⟨h1, h2⟩ := mfind_at k r (j + 1) i v h
   refine ⟨by omega, ?_⟩
   rw [show i - j = (i - (j + 1)) + 1 from by omega]; simpa using h2
theorem entsF_at (agg : Bool) : ∀ (es : List (List Int × Int)) (j i : Nat), (entsF agg j es)[i]? = (es[i]?).map fun e => ⟨keyV agg e.1, .int .i64 e.2, j + i⟩
 | [], _, i => by simp [entsF]
 | (k, v) :: r, j, 0 => by simp [entsF]
 | (k, v) :: r, j, i + 1 => by
  have := entsF_at agg r (j + 1) i
  simp only [entsF, List.getElem?_cons_succ, this]
  rw [show j + 1 + i = j + (i + 1) from by omega]
theorem entsF_len (agg : Bool) (es : List (List Int × Int)) : ∀ j, (entsF agg j es).length = es.length := by
 induction es with
 | nil => intro j; rfl
 | cons e r ih => intro j; obtain ⟨k, v⟩ := e; simp [entsF, ih]
theorem entsF_snoc (agg : Bool) (k : List Int) (v : Int) : ∀ (es : List (List Int × Int)) (j : Nat), entsF agg j (es ++ [(k, v)]) = entsF agg j es ++ [⟨keyV agg k, .int .i64 v, j + es.length⟩]
 | [], _ => by simp [entsF]
 | (k', v') :: r, j => by
  have := entsF_snoc agg k v r (j + 1)
  simp only [List.cons_append, entsF, this, List.length_cons]
  rw [show j + 1 + r.length = j + (r.length + 1) from by omega]
def mset (i : Nat) (v : Int) (es : List (List Int × Int)) : List (List Int × Int) := es.modify i fun e => (e.1, v)
theorem ents_set (agg : Bool) (es : List (List Int × Int)) (i : Nat) (v : Int) : ((entsF agg 0 es).toArray.modify i fun e => { e with val := .int .i64 v }) = (entsF agg 0 (mset i v es)).toArray := by
 apply Array.ext'
 rw [Array.toList_modify]
 apply List.ext_getElem?
 intro j
 rw [List.getElem?_modify]
 simp only [entsF_at, mset, List.getElem?_modify]
 cases es[j]? with
 | none => simp
 | some e => by_cases h : i = j <;> simp [h]
theorem ents_key (agg : Bool) (es : List (List Int × Int)) (i : Nat) (k : List Int) (v : Int) (h : es[i]? = some (k, v)) : ((entsF agg 0 es).toArray.modify i fun e => { e with key := keyV agg k }) = (entsF agg 0 es).toArray := by
 apply Array.ext'
 rw [Array.toList_modify]
 apply List.ext_getElem?
 intro j
 rw [List.getElem?_modify]
 simp only [entsF_at]
 by_cases e : i = j
 ·subst e; rw [h]; simp
 ·simp [e]
def mget (k : List Int) (es : List (List Int × Int)) : Int := match mfind k 0 es with | some (_, v) => v | none => 0
def mhas (k : List Int) (es : List (List Int × Int)) : Bool := (mfind k 0 es).isSome
def mpos (k : List Int) (es : List (List Int × Int)) : Nat := match mfind k 0 es with | some (i, _) => i | none => es.length
def mopen (k : List Int) (es : List (List Int × Int)) : List (List Int × Int) := match mfind k 0 es with | some _ => es | none => es ++ [(k, 0)]
def mput (k : List Int) (v : Int) (es : List (List Int × Int)) : List (List Int × Int) := mset (mpos k es) v (mopen k es)
def intsA : List AV → Option (List Int)
 | [] => some []
 | .c (.v (.int .i64 n)) :: r => match intsA r with | some l => some (n :: l) | none => none
 | _ => none
def kty (P : Program) (kt : TypeId) : Option (Bool × Nat) :=
 match ty P kt with
 | some ⟨.int _, _, _, _, _⟩ => some (false, 1)
 | some ⟨.st _, _, _, _, _⟩ => match flatN P 9 kt with
  | some ns => if ns.all (fun i => Nat.beq i 0) then some (true, ns.length) else none
  | none => none
 | _ => none
def keyA : AV → Option (Bool × List Int)
 | .c (.v (.int .i64 n)) => some (false, [n])
 | .agg cs => match intsA cs with | some l => some (true, l) | none => none
 | _ => none
def intTy (P : Program) (t : TypeId) : Bool := match P.info? t with | some i => (match i.zero with | some (.int .i64 0) => true | _ => false) | none => false
def mapAV (P : Program) (h : Nat → Chunk) (t : TypeId) (x k : AV) : Option (Nat × Bool × Nat × List (List Int × Int) × List Int) :=
 match ty P t with
 | some ⟨.mp kt et, _, _, _, _⟩ => match x with
  | .map id => match h id with
   | .mp a n es => match kty P kt, keyA k with
    | some (a', n'), some (a'', l) => if (a == a') && (a == a'') && Nat.beq n n' && Nat.beq n l.length && intTy P et then some (id, a, n, es, l) else none
    | _, _ => none
   | _ => none
  | _ => none
 | _ => none
def ex3 (P : Program) (g : Operand → AV) (h : Nat → Chunk) (m : Nat) : Op → Option (Prop × Eff)
 | .makeMap t none => match ty P t with
  | some ⟨.mp kt et, _, _, _, _⟩ => match kty P kt with
   | some (a, n) => some (True, ⟨.map m, [(m, .mp a n [])], 1⟩)
   | none => none
  | _ => none
 | .lookup t x k ok => match mapAV P h t (g x) (g k) with
  | some (_, _, _, es, l) => some (True, ⟨if ok then .tup [I .i64 (mget l es), B (mhas l es)] else I .i64 (mget l es), [], 0⟩)
  | none => none
 | .mapEntry t x k => match mapAV P h t (g x) (g k) with
  | some (id, a, n, es, l) => some (True, ⟨.tup [I .i64 (mget l es), I .i64 (mpos l es)], [(id, .mp a n (mopen l es))], 0⟩)
  | none => none
 | .mapUpdate t x k v => match mapAV P h t (g x) (g k), g v with
  | some (id, a, n, es, l), .c (.v (.int .i64 y)) => some (True, ⟨.undef, [(id, .mp a n (mput l y es))], 0⟩)
  | _, _ => none
 | .entryStore t x s v => match g x, g s, g v with
  | .map id, .c (.v (.int .i64 i)), .c (.v (.int .i64 y)) => match h id with
   | .mp a n es => some (0 ≤ i ∧ i.toNat < es.length, ⟨.undef, [(id, .mp a n (mset i.toNat y es))], 0⟩)
   | _ => none
  | _, _, _ => none
 | .typeAssert x _ t false => match g x, ty P t with
  | .ifc u y, some ⟨k, _, _, _, _⟩ => match k with
   | .ifc => none
   | _ => if Nat.beq u t then some (True, ⟨y, [], 0⟩) else none
  | _, _ => none
 | .call ⟨.builtin .copy, args, ts⟩ => match args.toList, ts.toList with
  | [d, x], [t, t'] => if Nat.beq t t' then copyAV P h t (g d) (g x) else none
  | _, _ => none
 | .call ⟨.builtin .clear, args, ts⟩ => match args.toList, ts.toList with
  | [d], [t] => clearAV P h t (g d)
  | _, _ => none
 | .buildSlice t len parts => match ex2 P g h m (.buildSlice t len parts) with
  | some r => some r
  | none => fzEff (rowsL h (parts.toList.map fun p => g p.2)) (ex2 P (fun o => fz (rowsL h (parts.toList.map fun p => g p.2)) h (g o)) (fzH (rowsL h (parts.toList.map fun p => g p.2)) h) m (.buildSlice t len parts))
 | .store t a x => match ex2 P g h m (.store t a x) with
  | some r => some r
  | none => fzEff (rowsA h (g x)) (ex2 P (fun o => fz (rowsA h (g x)) h (g o)) (fzH (rowsA h (g x)) h) m (.store t a x))
 | op => ex2 P g h m op
theorem kty_ok {kt : TypeId} {a : Bool} {n : Nat} (h : kty P kt = some (a, n)) : KeyTy P kt a n := by
 unfold kty at h
 split at h
 ·rename_i k _ _ _ _ ht
  simp only [Option.some.injEq, Prod.mk.injEq] at h
  obtain ⟨rfl, rfl⟩ := h
  obtain ⟨_, u, _, h2, h3, _⟩ := ty_kind ht
  have := kind_int h3
  subst this
  exact .inl ⟨rfl, rfl, k, h2⟩
 ·rename_i ht
  split at h
  ·rename_i ns hn
   split at h
   ·rename_i hz
    simp only [Option.some.injEq, Prod.mk.injEq] at h
    obtain ⟨rfl, rfl⟩ := h
    obtain ⟨_, u, _, h2, h3, _⟩ := ty_kind ht
    obtain ⟨fs, rfl, _⟩ := kind_st h3
    refine .inr ⟨rfl, ⟨fs, h2⟩, ?_⟩
    rw [hn]
    congr 1
    refine List.eq_replicate_iff.2 ⟨rfl, fun b hb => ?_⟩
    exact Nat.eq_of_beq_eq_true (List.all_eq_true.1 hz b hb)
   ·simp at h
  ·simp at h
 ·simp at h
theorem intsA_rel : ∀ {cs : List AV} {l : List Int}, intsA cs = some l → ∀ {vs : List Value}, RelL U w F β cs vs → vs = l.map (.int .i64)
 | [], l, h, vs, hr => by simp [intsA] at h; subst h; simpa [RelL] using hr
 | x :: r, l, h, vs, hr => by
  simp only [RelL] at hr
  obtain ⟨u, us, rfl, h1, h2⟩ := hr
  unfold intsA at h
  split at h
  ·simp at *
  ·rename_i n r' heq
   obtain ⟨rfl, rfl⟩ := List.cons.inj heq
   split at h
   ·rename_i l' hl'
    simp only [Option.some.injEq] at h
    subst h
    rw [(relC.1 h1).1, intsA_rel hl' h2]; rfl
   ·simp at h
  ·simp at h
theorem keyA_rel {x : AV} {a : Bool} {l : List Int} (h : keyA x = some (a, l)) {u : Value} (hr : RelA U w F β x u) : u = keyV a l := by
 unfold keyA at h
 split at h
 ·simp only [Option.some.injEq, Prod.mk.injEq] at h
  obtain ⟨rfl, rfl⟩ := h
  rw [(relC.1 hr).1]; rfl
 ·split at h
  ·rename_i l' hl'
   simp only [Option.some.injEq, Prod.mk.injEq] at h
   obtain ⟨rfl, rfl⟩ := h
   simp only [RelA] at hr
   obtain ⟨vs, rfl, h1, _⟩ := hr
   have := intsA_rel hl' h1
   simp only [keyV, if_true, ← this]
  ·simp at h
 ·simp at h
theorem check_key {kt : TypeId} {a : Bool} {n : Nat} (T : KeyTy P kt a n) {l : List Int} (hl : l.length = n) (e : Bool) (w : World) : (Instr.checkKey e 10000 kt (keyV a l)).run P w = .ok () w := by
 rcases T with ⟨rfl, rfl, k, hu⟩ | ⟨rfl, ⟨fs, hu⟩, hf⟩
 ·obtain ⟨x, rfl⟩ := List.length_eq_one_iff.1 hl
  have hf : flatN P 9 kt = some [0] := by simp only [flatN, hu]
  have e1 : keyV false [x] = mkV P kt (intV [x]) := by rw [mkV_scalar hu (by simp)]; rfl
  rw [e1]
  exact check_flat 9 10000 (by omega) kt _ hf _ rfl e w
 ·rw [key_mkV (n := n) hu]
  exact check_flat 9 10000 (by omega) kt _ hf _ (by simp [intV, hl]) e w
theorem kind_mp {u : TypeDesc} {k e : TypeId} (h : kindOf P u = .mp k e) : u = .map k e := by
 unfold kindOf at h
 cases u <;> simp at h
 simp [h]
theorem mapAV_ok (M : MemOk W N U F β h w) (hs : ∀ id, hT id ≠ .dead → hT id = h id) {t : TypeId} {x k : AV} {id : Nat} {a : Bool} {n : Nat} {es : List (List Int × Int)} {l : List Int} (he : mapAV P hT t x k = some (id, a, n, es, l))
 {u uk : Value} (hx : RelA U w F β x u) (hk : RelA U w F β k uk) :
 ∃ kt et bd g, P.underlying t = some (.map kt et) ∧ KeyTy P kt a n ∧ l.length = n ∧ β id = some bd ∧ bd.b = some g ∧ u = .map (some g) ∧ uk = keyV a l ∧ w.heap[g]? = some (.map (entsF a 0 es).toArray es.length) ∧ (∀ e ∈ es, e.1.length = n) ∧ ∀ w', (zeroValue et).run P w' = .ok (.int .i64 0) w' := by
 unfold mapAV at he
 split at he
 ·rename_i kt et _ _ _ _ ht
  split at he
  ·rename_i id'
   split at he
   ·rename_i a' n' es' hc
    split at he
    ·rename_i b m c l' hkt hka
     split at he
     ·rename_i hq
      simp only [Bool.and_eq_true, beq_iff_eq] at hq
      obtain ⟨⟨⟨⟨rfl, rfl⟩, h3⟩, h4⟩, h5⟩ := hq
      have h3 := Nat.eq_of_beq_eq_true h3
      have h4 := Nat.eq_of_beq_eq_true h4
      subst h3
      simp only [Option.some.injEq, Prod.mk.injEq] at he
      obtain ⟨rfl, rfl, rfl, rfl, rfl⟩ := he
      obtain ⟨_, ud, _, e2, e3, _⟩ := ty_kind ht
      have := kind_mp e3
      subst this
      obtain ⟨bd, hb, h0, g, hg, hh⟩ := M.get hs hc (by simp)
      simp only [RelA] at hx
      have hu := hx.2.2 bd hb
      rw [hg] at hu
      refine ⟨kt, et, bd, g, e2, kty_ok hkt, h4.symm, hb, hg, hu, keyA_rel hka hk, hh, h0, fun w' => ?_⟩
      unfold intTy at h5
      split at h5
      ·rename_i i hi
       split at h5
       ·rename_i hz; exact run_zero' hi hz w'
       ·simp at h5
      ·simp at h5
     ·simp at he
    ·simp at he
   ·simp at he
  ·simp at he
 ·simp at he
theorem relL_two {x y : AV} {u v : Value} (h1 : RelA U w F β x u) (h2 : RelA U w F β y v) : RelL U w F β [x, y] [u, v] := by simp only [RelL]; exact ⟨u, [v], rfl, h1, v, [], rfl, h2, rfl⟩
theorem map_store (M : MemOk W N U F β h w) (m : Nat) {id : Nat} {bd : Bind} (hb : β id = some bd) {g : Nat} (hg : bd.b = some g) {o : Obj} (ho : w.heap[g]? = some o) {a : Bool} {n : Nat} {es : List (List Int × Int)} (h0 : ∀ e ∈ es, e.1.length = n) {x : AV} {v : Value} (hx : ∀ (U F : Nat → Prop) (w : World) (β : Nat → Option Bind), RelA U w F β x v) :
 StepTo W N U F β h w m ⟨x, [(id, .mp a n es)], 0⟩ v { w with heap := w.heap.setIfInBounds g (.map (entsF a 0 es).toArray es.length) } := by
 obtain ⟨k1, k2⟩ := MapKept.heap_set (o' := .map (entsF a 0 es).toArray es.length) ho
 obtain ⟨F', β', M', E', _, hF⟩ := step_set (w' := { w with heap := w.heap.setIfInBounds g (.map (entsF a 0 es).toArray es.length) }) M m hb hg rfl rfl rfl (by simp) (fun b hne => k2 b hne) (c := .mp a n es) (fun _ => ⟨h0, g, hg, k1⟩) v
 exact ⟨F', β', M', E', hx _ _ _ _, hF⟩
theorem mget_some {k : List Int} {es : List (List Int × Int)} {i : Nat} {v : Int} (h : mfind k 0 es = some (i, v)) : es[i]? = some (k, v) := by simpa using (mfind_at k es 0 i v h).2
theorem mapEntry_run (M : MemOk W N U F β h w) (hs : ∀ id, hT id ≠ .dead → hT id = h id) (m : Nat) {t : TypeId} {x k : AV} {id : Nat} {a : Bool} {n : Nat} {es : List (List Int × Int)} {l : List Int} (he : mapAV P hT t x k = some (id, a, n, es, l))
 {u uk : Value} (hx : RelA U w F β x u) (hk : RelA U w F β k uk) :
 ∃ z w', (Instr.mapEntry t u uk).run P w = .ok z w' ∧ StepTo W N U F β h w m ⟨.tup [I .i64 (mget l es), I .i64 (mpos l es)], [(id, .mp a n (mopen l es))], 0⟩ z w' := by
 obtain ⟨kt, et, bd, g, h1, h2, h3, h4, h5, rfl, rfl, h6, h7, h8⟩ := mapAV_ok M hs he hx hk
 have hrel : ∀ (v : Int) (p : Nat) (U F : Nat → Prop) (w : World) (β : Nat → Option Bind), RelA U w F β (.tup [I .i64 v, I .i64 p]) (.tuple #[.int .i64 v, .int .i64 p]) := fun v p U F w β => by
  simp only [RelA]; exact ⟨_, rfl, relL_two (relI.2 rfl) (relI.2 rfl)⟩
 have hf := find_run h2 h3 w es h7
 cases hm : mfind l 0 es with
 | none =>
  rw [hm] at hf
  refine ⟨_, _, ?_, map_store M m h4 h5 h6 (es := mopen l es) (by
   unfold mopen; rw [hm]; intro e hee; rcases List.mem_append.1 hee with q | q; exact h7 e q; simp at q; subst q; exact h3) (hrel _ _)⟩
  ·simp only [Instr.mapEntry, Sem.run_bind, run_underlying h1, Result.andThen_ok, MapKept.run_getObj_map h6, check_key h2 h3 false w, hf, Option.map_none, h8, MapKept.run_setObj_map _ h6, Sem.run_pure]
   unfold mopen mget mpos
   rw [hm]
   simp only [entsF_snoc, List.length_append, List.length_cons, List.length_nil, Nat.zero_add]
   congr 1
   simp
 | some p =>
  obtain ⟨i, v⟩ := p
  rw [hm] at hf
  have hi := mget_some hm
  have he0 : (entsF a 0 es).toArray[i]? = some ⟨keyV a l, .int .i64 v, i⟩ := by rw [List.getElem?_toArray, entsF_at, hi]; simp
  refine ⟨_, _, ?_, map_store M m h4 h5 h6 (es := mopen l es) (by unfold mopen; rw [hm]; exact h7) (hrel _ _)⟩
  ·simp only [Instr.mapEntry, Sem.run_bind, run_underlying h1, Result.andThen_ok, MapKept.run_getObj_map h6, check_key h2 h3 false w, hf, Option.map_some, he0, Option.getD_some, stays_run, MapKept.run_setObj_map _ h6, Sem.run_pure, ents_key a es i l v hi]
   unfold mopen mget mpos
   rw [hm]
   rfl
theorem mapUpdate_run (M : MemOk W N U F β h w) (hs : ∀ id, hT id ≠ .dead → hT id = h id) (m : Nat) {t : TypeId} {x k : AV} {id : Nat} {a : Bool} {n : Nat} {es : List (List Int × Int)} {l : List Int} {y : Int} (he : mapAV P hT t x k = some (id, a, n, es, l))
 {u uk : Value} (hx : RelA U w F β x u) (hk : RelA U w F β k uk) :
 ∃ w', (Instr.mapUpdate t u uk (.int .i64 y)).run P w = .ok () w' ∧ StepTo W N U F β h w m ⟨.undef, [(id, .mp a n (mput l y es))], 0⟩ undef w' := by
 obtain ⟨kt, et, bd, g, h1, h2, h3, h4, h5, rfl, rfl, h6, h7, h8⟩ := mapAV_ok M hs he hx hk
 have hrel : ∀ (U F : Nat → Prop) (w : World) (β : Nat → Option Bind), RelA U w F β .undef undef := fun U F w β => by simp only [RelA]
 have hf := find_run h2 h3 w es h7
 have hlen : ∀ (es' : List (List Int × Int)) (i : Nat), (∀ e ∈ es', e.1.length = n) → ∀ e ∈ mset i y es', e.1.length = n := by
  intro es' i hh e hee
  unfold mset at hee
  obtain ⟨j, hj, rfl⟩ := List.getElem_of_mem hee
  rw [List.getElem_modify]
  have := hh _ (List.getElem_mem (l := es') (n := j) (by simpa using hj))
  split <;> exact this
 cases hm : mfind l 0 es with
 | none =>
  rw [hm] at hf
  have e1 : mput l y es = es ++ [(l, y)] := by
   unfold mput mset mpos mopen
   rw [hm]
   apply List.ext_getElem?
   intro j
   rw [List.getElem?_modify]
   rcases Nat.lt_trichotomy j es.length with hj | hj | hj
   ·rw [List.getElem?_append_left hj, List.getElem?_append_left hj]; simp [Nat.ne_of_gt hj]
   ·subst hj; simp
   ·rw [List.getElem?_eq_none (by simp; omega), List.getElem?_eq_none (by simp; omega)]; rfl
  refine ⟨_, ?_, map_store M m h4 h5 h6 (es := mput l y es) (by
   rw [e1]; intro e hee; rcases List.mem_append.1 hee with q | q; exact h7 e q; simp at q; subst q; exact h3) hrel⟩
  simp only [Instr.mapUpdate, Sem.run_bind, run_underlying h1, Result.andThen_ok, MapKept.run_getObj_map h6, check_key h2 h3 false w, hf, Option.map_none, MapKept.run_setObj_map _ h6]
  rw [e1]
  simp only [entsF_snoc, List.length_append, List.length_cons, List.length_nil, Nat.zero_add]
  congr 1
  simp
 | some p =>
  obtain ⟨i, v⟩ := p
  rw [hm] at hf
  have hi := mget_some hm
  have he0 : (entsF a 0 es).toArray[i]? = some ⟨keyV a l, .int .i64 v, i⟩ := by rw [List.getElem?_toArray, entsF_at, hi]; simp
  have e1 : mput l y es = mset i y es := by unfold mput mpos mopen; rw [hm]
  have e2 : ((entsF a 0 es).toArray.modify i fun e => { e with key := keyV a l, val := .int .i64 y }) = (entsF a 0 (mset i y es)).toArray := by
   rw [← ents_set]
   apply Array.ext'
   rw [Array.toList_modify, Array.toList_modify]
   apply List.ext_getElem?
   intro j
   rw [List.getElem?_modify, List.getElem?_modify]
   simp only [entsF_at]
   by_cases e : i = j
   ·subst e; rw [hi]; simp
   ·simp [e]
  refine ⟨_, ?_, map_store M m h4 h5 h6 (es := mput l y es) (by rw [e1]; exact hlen es i h7) hrel⟩
  simp only [Instr.mapUpdate, Sem.run_bind, run_underlying h1, Result.andThen_ok, MapKept.run_getObj_map h6, check_key h2 h3 false w, hf, Option.map_some, he0, Option.getD_some, stays_run, MapKept.run_setObj_map _ h6, e2, e1]
  simp [mset]
theorem lookup_run (M : MemOk W N U F β h w) (hs : ∀ id, hT id ≠ .dead → hT id = h id) (m : Nat) {t : TypeId} {x k : AV} {id : Nat} {a : Bool} {n : Nat} {es : List (List Int × Int)} {l : List Int} (ok : Bool) (he : mapAV P hT t x k = some (id, a, n, es, l))
 {u uk : Value} (hx : RelA U w F β x u) (hk : RelA U w F β k uk) :
 ∃ z, (Instr.lookup t u uk ok).run P w = .ok z w ∧ RelA U w F β (if ok then .tup [I .i64 (mget l es), B (mhas l es)] else I .i64 (mget l es)) z := by
 obtain ⟨kt, et, bd, g, h1, h2, h3, h4, h5, rfl, rfl, h6, h7, h8⟩ := mapAV_ok M hs he hx hk
 have hf := find_run h2 h3 w es h7
 have hrel : RelA U w F β (if ok then .tup [I .i64 (mget l es), B (mhas l es)] else I .i64 (mget l es)) (if ok then .tuple #[.int .i64 (mget l es), .bool (mhas l es)] else .int .i64 (mget l es)) := by
  cases ok with
  | true => simp only [if_true, RelA]; exact ⟨_, rfl, relL_two (relI.2 rfl) (relB.2 rfl)⟩
  | false => exact relI.2 rfl
 refine ⟨_, ?_, hrel⟩
 unfold mget mhas
 cases hm : mfind l 0 es with
 | none =>
  rw [hm] at hf
  cases ok <;> simp [Instr.lookup, run_underlying h1, MapKept.run_getObj_map h6, check_key h2 h3 _ w, hf, Result.andThen, h8]
 | some p =>
  obtain ⟨i, v⟩ := p
  rw [hm] at hf
  cases ok <;> simp [Instr.lookup, run_underlying h1, MapKept.run_getObj_map h6, check_key h2 h3 _ w, hf, Result.andThen]
theorem entryStore_run (M : MemOk W N U F β h w) (hs : ∀ id, hT id ≠ .dead → hT id = h id) (m : Nat) {t : TypeId} {id : Nat} {a : Bool} {n : Nat} {es : List (List Int × Int)} {i y : Int} (hc : hT id = .mp a n es) (hi0 : 0 ≤ i) (hi : i.toNat < es.length)
 {u : Value} (hx : RelA U w F β (.map id) u) :
 ∃ w', (Instr.entryStore t u (.int .i64 i) (.int .i64 y)).run P w = .ok () w' ∧ StepTo W N U F β h w m ⟨.undef, [(id, .mp a n (mset i.toNat y es))], 0⟩ undef w' := by
 obtain ⟨bd, hb, h0, g, hg, hh⟩ := M.get hs hc (by simp)
 simp only [RelA] at hx
 have hu := hx.2.2 bd hb
 rw [hg] at hu
 subst hu
 obtain ⟨i', rfl⟩ := Int.eq_ofNat_of_zero_le hi0
 simp only [Int.toNat_natCast] at hi ⊢
 have hfi : (entsF a 0 es).toArray.findIdx? (fun e => (e.born : Int) == (i' : Int)) = some i' := by
  rw [Array.findIdx?_eq_some_iff_getElem]
  have hl : i' < (entsF a 0 es).toArray.size := by simp [entsF_len]; exact hi
  have at_ : ∀ j (hj : j < (entsF a 0 es).toArray.size), ((entsF a 0 es).toArray[j]).born = j := by
   intro j hj
   have h1 := entsF_at a es 0 j
   have hj' : j < (entsF a 0 es).length := by simpa using hj
   have hj2 : j < es.length := by rwa [entsF_len] at hj'
   rw [List.getElem?_eq_getElem hj', List.getElem?_eq_getElem hj2] at h1
   simp only [Option.map_some, Option.some.injEq] at h1
   simp [h1]
  refine ⟨hl, by rw [at_ i' hl]; simp, fun j hj => ?_⟩
  rw [at_ j (by omega)]
  simp; omega
 refine ⟨_, ?_, map_store M m hb hg hh (es := mset i' y es) (by
  intro e hee
  unfold mset at hee
  obtain ⟨j, hj, rfl⟩ := List.getElem_of_mem hee
  rw [List.getElem_modify]
  have := h0 _ (List.getElem_mem (l := es) (n := j) (by simpa using hj))
  split <;> exact this) (fun U F w β => by simp only [RelA])⟩
 have hl2 : (mset i' y es).length = es.length := by simp [mset]
 simp only [Instr.entryStore, Sem.run_bind, Result.andThen_ok, MapKept.run_getObj_map hh, asInt, asIntOf, Sem.run_pure, hfi, MapKept.run_setObj_map _ hh, ents_set, hl2]
theorem ex3_run (M : MemOk W N U F β h w) (hs : ∀ id, hT id ≠ .dead → hT id = h id) {m : Nat} (hm : ¬ U m) {g : Operand → AV} {ev : Operand → Value} {o : Oper} (G : ∀ x ∈ o.op.operands.toList, RelA U w F β (g x) (ev x)) {φ : Prop} {r : Eff} (he : ex3 P g hT m o.op = some (φ, r)) (hφ : φ) :
 ∃ n w', (execOp ev o).run P w = .ok n w' ∧ isVal n = true ∧ StepTo W N U F β h w m r (nv n) w' := by
 have frz : ∀ (Z : List Nat), fzEff Z (ex2 P (fun o => fz Z hT (g o)) (fzH Z hT) m o.op) = some (φ, r) → ∃ n w', (execOp ev o).run P w = .ok n w' ∧ isVal n = true ∧ StepTo W N U F β h w m r (nv n) w' := by
  intro Z hz
  cases hx : ex2 P (fun o => fz Z hT (g o)) (fzH Z hT) m o.op with
  | none => rw [hx] at hz; simp [fzEff] at hz
  | some q =>
   obtain ⟨ψ, v, ups, fr⟩ := q
   rw [hx] at hz
   simp only [fzEff, Option.some.injEq, Prod.mk.injEq] at hz
   obtain ⟨rfl, rfl⟩ := hz
   obtain ⟨n, w', k1, k2, k3⟩ := ex2_run (fz_mem M Z) (hT := fzH Z hT) (fun id hd => by
    unfold fzH at hd ⊢
    cases hzz : inZ Z id with
    | true => simp [hzz] at hd
    | false => rw [hzz] at hd; exact hs id hd) hm (g := fun o => fz Z hT (g o)) (fun x hx => fz_run M hs Z _ _ (G x hx)) hx hφ
   exact ⟨n, w', k1, k2, k3.behind M Z⟩
 unfold ex3 at he
 split at he
 ·rename_i t hop
  split at he
  ·rename_i kt et _ _ _ _ ht
   split at he
   ·rename_i a n hk
    simp only [Option.some.injEq, Prod.mk.injEq] at he
    obtain ⟨rfl, rfl⟩ := he
    refine ⟨.value (.map (some w.heap.size)), w.alloc (.map #[] 0), ?_, rfl, ?_⟩
    ·simp only [execOp, hop, Instr.makeMap, Option.map_none, Sem.run_bind, run_newObj, Result.andThen_ok, Sem.run_pure]
     try rfl
    ·refine step_new M hm (.map #[] 0) ⟨.map (some w.heap.size), some w.heap.size, 0, 0⟩ rfl (fun E => ⟨(by intro e he; simp at he), w.heap.size, rfl, heap_alloc_new w (.map #[] 0)⟩) ?_
     simp only [RelA]
     refine ⟨.inr ⟨Nat.le_refl _, by omega⟩, rfl, fun bd hb => ?_⟩
     simp only [updB, if_true, Option.some.injEq] at hb
     subst hb; rfl
   ·simp at he
  ·simp at he
 ·rename_i t x k ok hop
  split at he
  ·rename_i id a n es l hma
   simp only [Option.some.injEq, Prod.mk.injEq] at he
   obtain ⟨rfl, rfl⟩ := he
   obtain ⟨z, k1, k2⟩ := lookup_run M hs m ok hma (G x (by simp [hop, Op.operands])) (G k (by simp [hop, Op.operands]))
   exact ⟨.value z, w, by simp only [execOp, hop, Sem.run_bind, k1, Result.andThen_ok, Sem.run_pure], rfl, step_pure M m k2⟩
  ·simp at he
 ·rename_i t x k hop
  split at he
  ·rename_i id a n es l hma
   simp only [Option.some.injEq, Prod.mk.injEq] at he
   obtain ⟨rfl, rfl⟩ := he
   obtain ⟨z, w', k1, k2⟩ := mapEntry_run M hs m hma (G x (by simp [hop, Op.operands])) (G k (by simp [hop, Op.operands]))
   exact ⟨.value z, w', by simp only [execOp, hop, Sem.run_bind, k1, Result.andThen_ok, Sem.run_pure], rfl, k2⟩
  ·simp at he
 ·rename_i t x k v hop
  split at he
  ·rename_i id a n es l y hma hy
   simp only [Option.some.injEq, Prod.mk.injEq] at he
   obtain ⟨rfl, rfl⟩ := he
   obtain ⟨w', k1, k2⟩ := mapUpdate_run (y := y) M hs m hma (G x (by simp [hop, Op.operands])) (G k (by simp [hop, Op.operands]))
   have hv := G v (by simp [hop, Op.operands])
   rw [hy] at hv
   rw [← (relC.1 hv).1] at k1
   exact ⟨.skip, w', by simp only [execOp, hop, Sem.run_bind, k1, Result.andThen_ok, Sem.run_pure], rfl, k2⟩
  ·simp at he
 ·rename_i t x s v hop
  split at he
  ·rename_i id i y hx hsv hy
   split at he
   ·rename_i a n es hc
    simp only [Option.some.injEq, Prod.mk.injEq] at he
    obtain ⟨rfl, rfl⟩ := he
    have hxr := G x (by simp [hop, Op.operands])
    have hsr := G s (by simp [hop, Op.operands])
    have hvr := G v (by simp [hop, Op.operands])
    rw [hx] at hxr; rw [hsv] at hsr; rw [hy] at hvr
    obtain ⟨w', k1, k2⟩ := entryStore_run (P := P) (t := t) (y := y) M hs m hc hφ.1 hφ.2 hxr
    rw [← (relC.1 hsr).1, ← (relC.1 hvr).1] at k1
    exact ⟨.skip, w', by simp only [execOp, hop, Sem.run_bind, k1, Result.andThen_ok, Sem.run_pure], rfl, k2⟩
   ·simp at he
  ·simp at he
 ·rename_i x xt t hop
  split at he
  ·rename_i u y k _ _ _ _ hx hk
   have hxr := G x (by simp [hop, Op.operands])
   rw [hx] at hxr
   simp only [RelA] at hxr
   obtain ⟨z, hz, hr⟩ := hxr
   obtain ⟨_, d, _, h2, h3, _⟩ := ty_kind hk
   split at he
   ·simp at he
   ·rename_i hki
    split at he
    ·rename_i hut
     simp only [Option.some.injEq, Prod.mk.injEq] at he
     obtain ⟨rfl, rfl⟩ := he
     have hut' := Nat.eq_of_beq_eq_true hut
     subst hut'
     refine ⟨.value z, w, ?_, rfl, step_pure M m hr⟩
     have : ∀ ms, d ≠ .interface ms := fun ms h => hki (by rw [← h3, h]; rfl)
     simp only [execOp, hop, Instr.typeAssert, Sem.run_bind, run_underlying h2, Result.andThen_ok, hz]
     cases d <;> first | (simp; done) | (exact absurd rfl (this _))
    ·simp at he
  ·simp at he
 ·rename_i args ts hop
  split at he
  ·rename_i d x t t' ha ht
   split at he
   ·rename_i heq
    have := Nat.eq_of_beq_eq_true heq
    subst this
    have ha' : args = #[d, x] := by rw [← ha]
    have ht' : ts = #[t, t] := by rw [← ht]
    subst ha' ht'
    obtain ⟨z, w', h1, h2⟩ := copy_run (ty' := o.type) M hs m he hφ (G d (by simp [hop, Op.operands, Call.operands])) (G x (by simp [hop, Op.operands, Call.operands]))
    refine ⟨.value z, w', ?_, rfl, h2⟩
    simp only [execOp, hop, resolve, Sem.run_bind, Sem.run_pure, Result.andThen_ok, invoke, builtin, List.map_toArray, List.map_cons, List.map_nil, h1]
   ·simp at he
  ·simp at he
 ·rename_i args ts hop
  split at he
  ·rename_i d t ha ht
   have ha' : args = #[d] := by rw [← ha]
   have ht' : ts = #[t] := by rw [← ht]
   subst ha' ht'
   obtain ⟨z, w', h1, h2⟩ := clear_run (ty' := o.type) M hs m he hφ (G d (by simp [hop, Op.operands, Call.operands]))
   refine ⟨.value z, w', ?_, rfl, h2⟩
   simp only [execOp, hop, resolve, Sem.run_bind, Sem.run_pure, Result.andThen_ok, invoke, builtin, List.map_toArray, List.map_cons, List.map_nil, h1]
  ·simp at he
 ·rename_i t len parts hop
  split at he
  ·rename_i q hq
   rw [← hop] at hq
   exact ex2_run M hs hm G (by rw [hq]; exact he) hφ
  ·rw [← hop] at he; exact frz _ he
 ·rename_i t a x hop
  split at he
  ·rename_i q hq
   rw [← hop] at hq
   exact ex2_run M hs hm G (by rw [hq]; exact he) hφ
  ·rw [← hop] at he; exact frz _ he
 ·exact ex2_run M hs hm G he hφ
end
end Go.Proofs.YthiddmncjafklaaGreat
namespace Go.Proofs.YthiddmncjafklaaGreat
set_option linter.all false
open Go.RowKit
def methA (P : Program) (t : TypeId) (name : String) : Option (FuncId × Bool × Option TypeId) :=
 match P.info? t, P.underlying t with
 | some i, some d => match i.methods.find? (·.name == name) with
  | some m => if m.path.isEmpty then (match m.func with | some (f, p) => some (f, p, match d with | .pointer e => some e | _ => none) | none => none) else none
  | none => none
 | _, _ => none
def invA (P : Program) (h : Nat → Chunk) (x : AV) (name : String) : Option (Prop × FuncId × AV) :=
 match x with
 | .ifc t y => match methA P t name with
  | some (f, true, some _) => some (True, f, y)
  | some (f, false, some e) => match loadAV P h e y with
   | some (φ, z) => some (φ, f, z)
   | none => none
  | _ => none
 | _ => none
section
variable {P : Program} {W : World} {N U F : Nat → Prop} {β : Nat → Option Bind} {h hT : Nat → Chunk} {w : World}
theorem methA_some {t : TypeId} {name : String} {f : FuncId} {p : Bool} {e : TypeId} (h : methA P t name = some (f, p, some e)) : ∃ i m, P.info? t = some i ∧ P.underlying t = some (.pointer e) ∧ i.methods.find? (·.name == name) = some m ∧ m.path = #[] ∧ m.func = some (f, p) := by
 unfold methA at h
 split at h
 ·rename_i i d h1 h2
  split at h
  ·rename_i m hm
   split at h
   ·rename_i hp
    split at h
    ·rename_i f' p' hf
     simp only [Option.some.injEq, Prod.mk.injEq] at h
     obtain ⟨rfl, rfl, h3⟩ := h
     split at h3
     ·rename_i e'
      simp only [Option.some.injEq] at h3
      subst h3
      exact ⟨i, m, h1, h2, hm, by simpa using hp, hf⟩
     ·simp at h3
    ·simp at h
   ·simp at h
  ·simp at h
 ·simp at h
theorem inv_run (M : MemOk W N U F β h w) (hs : ∀ id, hT id ≠ .dead → hT id = h id) {x z : AV} {name : String} {φ : Prop} {f : FuncId} (he : invA P hT x name = some (φ, f, z)) (hφ : φ) {v : Value} (hv : RelA U w F β x v) :
 ∃ t y r, v = .iface t y ∧ (∀ n, (Go.method (n + 1) t y name).run P w = .ok (f, r) w) ∧ RelA U w F β z r := by
 unfold invA at he
 split at he
 ·rename_i t y
  simp only [RelA] at hv
  obtain ⟨u, rfl, hu⟩ := hv
  split at he
  ·rename_i f' e hm
   simp only [Option.some.injEq, Prod.mk.injEq] at he
   obtain ⟨rfl, rfl, rfl⟩ := he
   obtain ⟨i, m, h1, h2, h3, h4, h5⟩ := methA_some hm
   refine ⟨t, u, u, rfl, fun n => ?_, hu⟩
   simp [Go.method, Go.typeInfo, h1, h3, h4, h5, Go.follow, Go.receiverAt, Go.Place.get, run_underlying h2]
  ·rename_i f' e hm
   split at he
   ·rename_i ψ q hl
    simp only [Option.some.injEq, Prod.mk.injEq] at he
    obtain ⟨rfl, rfl, rfl⟩ := he
    obtain ⟨i, m, h1, h2, h3, h4, h5⟩ := methA_some hm
    obtain ⟨r, hr1, hr2⟩ := load_run M hs hl hφ hu
    refine ⟨t, u, r, rfl, fun n => ?_, hr2⟩
    have hp : ∃ a, u = .pointer (some a) := by
     unfold loadAV at hl
     split at hl
     ·split at hl
      ·rename_i φ' cs hc
       obtain ⟨b, o, vs, rfl, _⟩ := cells_run M hs hc (by
        split at hl
        ·simp only [Option.some.injEq, Prod.mk.injEq] at hl; rw [hl.1]; exact hφ
        ·simp at hl) hu
       exact ⟨_, rfl⟩
      ·simp at hl
     ·simp at hl
    obtain ⟨a, rfl⟩ := hp
    have hr1' : (loadVar e a).run P w = .ok r w := by
     simpa [Instr.loadAt, Instr.sureAddr] using hr1
    have hk : ∀ nm : String, (Builtin.ssaWrapNilChk_ #[t] t #[.pointer (some a), strVal "", strVal nm]).run P w = .ok (.pointer (some a)) w := fun _ => rfl
    simp [Go.method, Go.typeInfo, h1, h3, h4, h5, Go.follow, Go.receiverAt, Go.Place.get, run_underlying h2, hk, asAddr, hr1']
   ·simp at he
  ·simp at he
 ·simp at he
end
end Go.Proofs.YthiddmncjafklaaGreat
namespace Go.Proofs.YthiddmncjafklaaGreat
set_option linter.all false
open Go.RowKit
def nth (hs : List Chunk) (i : Nat) : Chunk := hs.getD i .dead
def Enters (P : Program) (f : FuncId) : Prop := ∃ fn, P.funcs[f]? = some fn ∧ fn.body.isSome = true ∧ (fn.name == "runtime.NumGoroutine") = false
def inB (β : Nat → Option Bind) (b : Nat) : Prop := ∃ i bd, β i = some bd ∧ bd.b = some b
def Spec (P : Program) (f : FuncId) (args : List AV) (hs : List Chunk) (r : AV) (hs' : List Chunk) : Prop :=
 Enters P f ∧ hs.length ≤ hs'.length ∧
 ∀ (w : World) (F : Nat → Prop) (β : Nat → Option Bind) (vs : List Value),
  MemOk w (inB β) (· < hs.length) F β (nth hs) w → RelL (· < hs.length) w F β args vs →
  Calls P f vs.toArray w fun e w' => ∃ v F' β', e = .returned v ∧
   MemOk w (inB β) (· < hs'.length) F' β' (nth hs') w' ∧ RelA (· < hs'.length) w' F' β' r v ∧ (∀ b, F b → F' b) ∧
   (∀ b, F' b → F b ∨ w.heap.size ≤ b ∨ inB β b) ∧ (∀ i bd, i < hs.length → β' i = some bd → β i = some bd)
def ix (ids : List Nat) (id : Nat) : Option Nat := go ids 0
where go : List Nat → Nat → Option Nat
 | [], _ => none
 | a :: r, k => if a = id then some k else go r (k + 1)
theorem ix_some {ids : List Nat} {id j : Nat} (h : ix ids id = some j) : ids[j]? = some id := by
 have key : ∀ (l : List Nat) (k : Nat), ix.go id l k = some j → k ≤ j ∧ l[j - k]? = some id := by
  intro l
  induction l with
  | nil => intro k h; simp [ix.go] at h
  | cons a r ih =>
   intro k h
   unfold ix.go at h
   split at h
   ·rename_i e
    simp only [Option.some.injEq] at h
    subst h e
    simp
   ·obtain ⟨h1, h2⟩ := ih _ h
    refine ⟨by omega, ?_⟩
    rw [show j - k = (j - (k + 1)) + 1 from by omega, List.getElem?_cons_succ]; exact h2
 simpa using (key ids 0 h).2
theorem ix_none {ids : List Nat} {id : Nat} (h : ix ids id = none) : id ∉ ids := by
 have key : ∀ (l : List Nat) (k : Nat), ix.go id l k = none → id ∉ l := by
  intro l
  induction l with
  | nil => intro k _; simp
  | cons a r ih =>
   intro k h
   unfold ix.go at h
   split at h
   ·simp at h
   ·rename_i e
    simp only [List.mem_cons, not_or]
    exact ⟨fun h' => e h'.symm, ih _ h⟩
 exact key ids 0 h
def cellP (ids : List Nat) (h : Nat → Chunk) : AV → PV
 | .c p => p
 | .own id => match ix ids id with
  | some _ => .undef
  | none => match h id with | .row _ sz xs => .sl sz xs | _ => .undef
 | .view id o l => match ix ids id with
  | some _ => .undef
  | none => match h id with | .row _ sz xs => .sl sz ((xs.drop o).take l) | _ => .undef
 | _ => .undef
mutual
/-- A value as it is seen where the pieces ids alone are owned, and the others are frozen. -/
def cv (ids : List Nat) (h : Nat → Chunk) : AV → AV
 | .undef => .undef
 | .c p => .c p
 | .agg xs => .agg (cvL ids h xs)
 | .tup xs => .tup (cvL ids h xs)
 | .own id => match ix ids id with
  | some j => .own j
  | none => match h id with | .row _ sz xs => .c (.sl sz xs) | _ => .undef
 | .view id o l => match ix ids id with
  | some j => .view j o l
  | none => match h id with | .row _ sz xs => .c (.sl sz ((xs.drop o).take l)) | _ => .undef
 | .ptr id i o => match ix ids id with
  | some j => .ptr j i o
  | none => match h id with
   | .row _ sz xs => .fel sz xs i o
   | .blk _ cs => .fel cs.length [cs.map (cellP ids h)] i o
   | _ => .undef
 | .fel sz xs i o => .fel sz xs i o
 | .clo f a b => .clo f (cvL ids h a) (cvL ids h b)
 | .ifc t x => .ifc t (cv ids h x)
 | .map id => match ix ids id with
  | some j => .map j
  | none => .undef
 | .opt t x => .opt t (cv ids h x)
def cvL (ids : List Nat) (h : Nat → Chunk) : List AV → List AV
 | [] => []
 | x :: r => cv ids h x :: cvL ids h r
end
def cvC (ids : List Nat) (h : Nat → Chunk) : Chunk → Chunk
 | .dead => .dead
 | .row e sz xs => .row e sz xs
 | .blk t cs => .blk t (cvL ids h cs)
 | .mp a n es => .mp a n es
theorem cvL_len (ids : List Nat) (h : Nat → Chunk) : ∀ xs, (cvL ids h xs).length = xs.length
 | [] => rfl
 | x :: r => by simp [cvL, cvL_len ids h r]
def frzF (ids : List Nat) (h : Nat → Chunk) (F : Nat → Prop) (β : Nat → Option Bind) (b : Nat) : Prop := F b ∨ ∃ id bd, id ∉ ids ∧ h id ≠ .dead ∧ β id = some bd ∧ bd.b = some b
def selB (ids : List Nat) (β : Nat → Option Bind) (j : Nat) : Option Bind := match ids[j]? with | some id => β id | none => none
section
variable {P : Program} {W : World} {N U F : Nat → Prop} {β : Nat → Option Bind} {h hT : Nat → Chunk} {w : World}
theorem frz_keeps (ids : List Nat) (hT : Nat → Chunk) : Keeps w F w (frzF ids hT F β) := fun b hb => ⟨.inl hb, rfl⟩
theorem frz_row (M : MemOk W N U F β h w) (hs : ∀ id, hT id ≠ .dead → hT id = h id) {ids : List Nat} {id e sz : Nat} {xs : List (List PV)} (hn : id ∉ ids) (hc : hT id = .row e sz xs) : ∃ bd, β id = some bd ∧ bd.sz = sz ∧ bd.n = xs.length ∧
 ((bd.b = none ∧ xs = [] ∧ bd.v = .slice none 0 0) ∨ ∃ g cap, bd.b = some g ∧ bd.v = .slice (some ⟨g, 0, none⟩) xs.length cap ∧ xs.length ≤ cap ∧ cap ≤ maxLen ∧ frzF ids hT F β g ∧ RelE w (frzF ids hT F β) g sz 0 xs) := by
 obtain ⟨bd, hb, h1, h2, h3, h4⟩ := M.get hs hc (by simp)
 refine ⟨bd, hb, h1, h2, ?_⟩
 rcases h4 with h4 | ⟨g, cap, cur, h5, h6, h7, h8, h9, h10, hE⟩
 ·exact .inl h4
 ·exact .inr ⟨g, cap, h5, h6, h8, h9, .inr ⟨id, bd, hn, by rw [hc]; simp, hb, h5⟩, RelE.mono (frz_keeps ids hT) rfl _ _ _ hE⟩
theorem relP_own (M : MemOk W N U F β h w) (hs : ∀ id, hT id ≠ .dead → hT id = h id) {ids : List Nat} {id e sz : Nat} {xs : List (List PV)} (hn : id ∉ ids) (hc : hT id = .row e sz xs) {v : Value} (hv : ∀ bd, β id = some bd → v = bd.v) : RelP w (frzF ids hT F β) (.sl sz xs) v := by
 obtain ⟨bd, hb, h1, h2, h4⟩ := frz_row M hs hn hc
 rw [hv bd hb]
 simp only [RelP]
 rcases h4 with ⟨_, rfl, h6⟩ | ⟨g, cap, h5, h6, h8, h9, hF, hE⟩
 ·exact ⟨none, 0, h6, Nat.le_refl _, Nat.zero_le _, .inl rfl⟩
 ·exact ⟨_, cap, h6, h8, h9, .inr ⟨g, 0, rfl, hF, hE⟩⟩
theorem relP_view (M : MemOk W N U F β h w) (hs : ∀ id, hT id ≠ .dead → hT id = h id) {ids : List Nat} {id e sz o l : Nat} {xs : List (List PV)} (hn : id ∉ ids) (hc : hT id = .row e sz xs) {v : Value}
 (hv : ∀ bd, β id = some bd → ∃ a c, v = .slice a l c ∧ o + l ≤ bd.n ∧ l ≤ c ∧ c ≤ maxLen ∧ (l = 0 ∨ ∃ g, bd.b = some g ∧ a = some ⟨g, o * bd.sz, none⟩) ∧ (o = 0 → ∃ n, bd.v = .slice a n c)) : RelP w (frzF ids hT F β) (.sl sz ((xs.drop o).take l)) v := by
 obtain ⟨bd, hb, h1, h2, h4⟩ := frz_row M hs hn hc
 obtain ⟨a, c, rfl, k1, k2, k3, k4, _⟩ := hv bd hb
 have hl : ((xs.drop o).take l).length = l := by simp; omega
 simp only [RelP]
 refine ⟨a, c, by rw [hl], by omega, k3, ?_⟩
 rcases k4 with rfl | ⟨g, k5, k6⟩
 ·exact .inl (by simp)
 ·rcases h4 with ⟨h5, _⟩ | ⟨g', cap, h5, _, _, _, hF, hE⟩
  ·rw [k5] at h5; simp at h5
  ·rw [k5] at h5; cases h5
   refine .inr ⟨g, _, k6, hF, RelE.of fun i cs hi => ?_⟩
   rw [List.getElem?_take] at hi
   split at hi
   ·rw [List.getElem?_drop] at hi
    have := hE.at _ _ hi
    rw [h1, ← Nat.add_mul]
    simpa using this
   ·simp at hi
theorem cellP_run (M : MemOk W N U F β h w) (hs : ∀ id, hT id ≠ .dead → hT id = h id) (ids : List Nat) {x : AV} {v : Value} (hv : RelA U w F β x v) (h1 : v.oneCell' = true) : RelP w (frzF ids hT F β) (cellP ids hT x) v := by
 have und : RelP w (frzF ids hT F β) .undef v := by simpa only [RelP] using h1
 unfold cellP
 split
 ·simp only [RelA] at hv; exact RelP.mono (frz_keeps ids hT) _ _ hv
 ·split
  ·exact und
  ·rename_i hn
   split
   ·rename_i hc
    simp only [RelA] at hv
    exact relP_own M hs (ix_none hn) hc hv.2.2
   ·exact und
 ·split
  ·exact und
  ·rename_i hn
   split
   ·rename_i hc
    simp only [RelA] at hv
    exact relP_view M hs (ix_none hn) hc hv.2.2
   ·exact und
 ·exact und
mutual
theorem cv_run (M : MemOk W N U F β h w) (hs : ∀ id, hT id ≠ .dead → hT id = h id) (ids : List Nat) : ∀ (x : AV) (v : Value), RelA U w F β x v → RelA (· < ids.length) w (frzF ids hT F β) (selB ids β) (cv ids hT x) v
 | .undef, v, hv => by simp only [cv, RelA]
 | .c p, v, hv => by simp only [cv, RelA] at hv ⊢; exact RelP.mono (frz_keeps ids hT) _ _ hv
 | .agg xs, v, hv => by
  simp only [cv, RelA] at hv ⊢
  obtain ⟨vs, rfl, k1, k2⟩ := hv
  exact ⟨vs, rfl, cvL_run M hs ids xs _ k1, k2⟩
 | .tup xs, v, hv => by
  simp only [cv, RelA] at hv ⊢
  obtain ⟨vs, rfl, k1⟩ := hv
  exact ⟨vs, rfl, cvL_run M hs ids xs _ k1⟩
 | .own id, v, hv => by
  simp only [cv]
  simp only [RelA] at hv
  split
  ·rename_i j hj
   have hj := ix_some hj
   simp only [RelA]
   exact ⟨(List.getElem?_eq_some_iff.1 hj).1, hv.2.1, fun bd hb => hv.2.2 bd (by simpa [selB, hj] using hb)⟩
  ·rename_i hn
   split
   ·rename_i hc
    simp only [RelA]
    exact relP_own M hs (ix_none hn) hc hv.2.2
   ·simp only [RelA]
 | .view id o l, v, hv => by
  simp only [cv]
  simp only [RelA] at hv
  split
  ·rename_i j hj
   have hj := ix_some hj
   simp only [RelA]
   exact ⟨(List.getElem?_eq_some_iff.1 hj).1, hv.2.1, fun bd hb => hv.2.2 bd (by simpa [selB, hj] using hb)⟩
  ·rename_i hn
   split
   ·rename_i hc
    simp only [RelA]
    exact relP_view M hs (ix_none hn) hc hv.2.2
   ·simp only [RelA]
 | .ptr id i o, v, hv => by
  simp only [cv]
  simp only [RelA] at hv
  split
  ·rename_i j hj
   have hj := ix_some hj
   simp only [RelA]
   exact ⟨(List.getElem?_eq_some_iff.1 hj).1, hv.2.1, fun bd hb => hv.2.2 bd (by simpa [selB, hj] using hb)⟩
  ·rename_i hn
   split
   ·rename_i hc
    obtain ⟨bd, hb, h1, h2, h4⟩ := frz_row M hs (ix_none hn) hc
    obtain ⟨g, hg, rfl⟩ := hv.2.2 bd hb
    simp only [RelA]
    rcases h4 with ⟨h5, _⟩ | ⟨g', cap, h5, _, _, _, hF, hE⟩
    ·rw [hg] at h5; simp at h5
    ·rw [hg] at h5; cases h5
     exact ⟨g, 0, by rw [h1, Nat.zero_add], hF, hE⟩
   ·rename_i t cs hc
    obtain ⟨bd, hb, h1, h2, g, vs, h3, h4, h5, h6, h7⟩ := M.get hs hc (by simp)
    obtain ⟨g', hg, rfl⟩ := hv.2.2 bd hb
    rw [h3] at hg; cases hg
    simp only [RelA]
    refine ⟨g, 0, by rw [h1, Nat.zero_add], .inr ⟨id, bd, ix_none hn, by rw [hc]; simp, hb, h3⟩, ?_⟩
    simp only [RelE, and_true]
    refine ⟨by simp, RelC.of fun j p hp => ?_⟩
    rw [List.getElem?_map] at hp
    cases hx : cs[j]? with
    | none => rw [hx] at hp; simp at hp
    | some x =>
     rw [hx] at hp
     simp only [Option.map_some, Option.some.injEq] at hp
     subst hp
     obtain ⟨u, hu, hr⟩ := h6.at j x hx
     refine ⟨u, ?_, cellP_run M hs ids hr (h7 u (List.mem_of_getElem? hu))⟩
     simp only [World.cell?, h5, Nat.zero_add]
     simpa using hu
   ·simp only [RelA]
 | .fel sz xs i o, v, hv => by
  simp only [cv, RelA] at hv ⊢
  obtain ⟨b, p, rfl, hb, hE⟩ := hv
  exact ⟨b, p, rfl, .inl hb, RelE.mono (frz_keeps ids hT) rfl _ _ _ hE⟩
 | .clo f a b, v, hv => by
  simp only [cv, RelA] at hv ⊢
  obtain ⟨fs, cs, rfl, k1, k2⟩ := hv
  exact ⟨fs, cs, rfl, cvL_run M hs ids a _ k1, cvL_run M hs ids b _ k2⟩
 | .ifc t x, v, hv => by
  simp only [cv, RelA] at hv ⊢
  obtain ⟨y, rfl, k1⟩ := hv
  exact ⟨y, rfl, cv_run M hs ids x y k1⟩
 | .map id, v, hv => by
  simp only [cv]
  simp only [RelA] at hv
  split
  ·rename_i j hj
   have hj := ix_some hj
   simp only [RelA]
   exact ⟨(List.getElem?_eq_some_iff.1 hj).1, hv.2.1, fun bd hb => hv.2.2 bd (by simpa [selB, hj] using hb)⟩
  ·simp only [RelA]
 | .opt t x, v, hv => by
  simp only [cv, RelA] at hv ⊢
  exact ⟨fun ht => cv_run M hs ids x v (hv.1 ht), hv.2⟩
theorem cvL_run (M : MemOk W N U F β h w) (hs : ∀ id, hT id ≠ .dead → hT id = h id) (ids : List Nat) : ∀ (xs : List AV) (vs : List Value), RelL U w F β xs vs → RelL (· < ids.length) w (frzF ids hT F β) (selB ids β) (cvL ids hT xs) vs
 | [], vs, hv => by simp only [cvL, RelL] at hv ⊢; exact hv
 | x :: r, vs, hv => by
  simp only [cvL, RelL] at hv ⊢
  obtain ⟨u, us, rfl, k1, k2⟩ := hv
  exact ⟨u, us, rfl, cv_run M hs ids x u k1, cvL_run M hs ids r us k2⟩
end
theorem cv_mem (M : MemOk W N U F β h w) (hs : ∀ id, hT id ≠ .dead → hT id = h id) (ids : List Nat) (hnd : ids.Nodup) :
 MemOk W N (· < ids.length) (frzF ids hT F β) (selB ids β) (nth (ids.map fun id => cvC ids hT (h id))) w := by
 have sel : ∀ {j bd}, selB ids β j = some bd → ∃ id, ids[j]? = some id ∧ β id = some bd := by
  intro j bd hj
  unfold selB at hj
  split at hj
  ·exact ⟨_, by assumption, hj⟩
  ·simp at hj
 refine ⟨M.size, M.os, M.tape, M.output, M.frame, ?_, ?_, ?_, ?_, ?_⟩
 ·intro b hb
  rcases hb with hb | ⟨id, bd, _, _, h1, h2⟩
  ·exact M.fin b hb
  ·exact (M.off id bd b h1 h2).2.1
 ·intro j bd hj
  obtain ⟨id, h1, _⟩ := sel hj
  exact (List.getElem?_eq_some_iff.1 h1).1
 ·intro j hj
  unfold nth at hj ⊢
  rw [List.getD_eq_getElem?_getD, List.getElem?_map] at hj ⊢
  cases hid : ids[j]? with
  | none => rw [hid] at hj; simp at hj
  | some id =>
   rw [hid] at hj
   simp only [Option.map_some, Option.getD_some] at hj ⊢
   have hne : h id ≠ .dead := by intro he; rw [he] at hj; exact hj rfl
   obtain ⟨bd, hb, hk⟩ := M.ch id hne
   refine ⟨bd, by simpa [selB, hid] using hb, ?_⟩
   cases hc : h id with
   | dead => exact (hne hc).elim
   | row e sz xs =>
    rw [hc] at hk
    obtain ⟨k1, k2, k3, k4⟩ := hk
    refine ⟨k1, k2, k3, ?_⟩
    rcases k4 with k4 | ⟨g, cap, cur, k5, k6, k7, k8, k9, k10, hE⟩
    ·exact .inl k4
    ·exact .inr ⟨g, cap, cur, k5, k6, k7, k8, k9, k10, RelE.mono (frz_keeps ids hT) rfl _ _ _ hE⟩
   | blk t cs =>
    rw [hc] at hk
    obtain ⟨k1, k2, g, vs, k3, k4, k5, k6, k7⟩ := hk
    exact ⟨by rw [cvL_len]; exact k1, k2, g, vs, k3, k4, k5, cvL_run M hs ids cs _ k6, k7⟩
   | mp a n es => rw [hc] at hk; exact hk
 ·intro i j bi bj b hi hj hbi hbj
  obtain ⟨x, x1, x2⟩ := sel hi
  obtain ⟨y, y1, y2⟩ := sel hj
  have := M.dis x y bi bj b x2 y2 hbi hbj
  subst this
  exact (List.getElem?_inj (List.getElem?_eq_some_iff.1 x1).1 hnd).1 (x1.trans y1.symm)
 ·intro j bd b hj hb
  obtain ⟨id, h1, h2⟩ := sel hj
  obtain ⟨k1, k2, k3⟩ := M.off id bd b h2 hb
  refine ⟨fun hf => ?_, k2, k3⟩
  rcases hf with hf | ⟨id', bd', hn, _, hb', hbb⟩
  ·exact k1 hf
  ·have := M.dis id id' bd bd' b h2 hb' hb hbb
   subst this
   exact hn (List.mem_of_getElem? h1)
end
end Go.Proofs.YthiddmncjafklaaGreat
namespace Go.Proofs.YthiddmncjafklaaGreat
set_option linter.all false
open Go.RowKit
def upI (ids : List Nat) (m j : Nat) : Nat := match ids[j]? with | some id => id | none => m + (j - ids.length)
mutual
/-- A callee's value as the caller sees it. -/
def up (ids : List Nat) (m : Nat) : AV → AV
 | .undef => .undef
 | .c p => .c p
 | .agg xs => .agg (upL ids m xs)
 | .tup xs => .tup (upL ids m xs)
 | .own j => .own (upI ids m j)
 | .view j o l => .view (upI ids m j) o l
 | .ptr j i o => .ptr (upI ids m j) i o
 | .fel sz xs i o => .fel sz xs i o
 | .clo f a b => .clo f (upL ids m a) (upL ids m b)
 | .ifc t x => .ifc t (up ids m x)
 | .map j => .map (upI ids m j)
 | .opt t x => .opt t (up ids m x)
def upL (ids : List Nat) (m : Nat) : List AV → List AV
 | [] => []
 | x :: r => up ids m x :: upL ids m r
end
def upC (ids : List Nat) (m : Nat) : Chunk → Chunk
 | .dead => .dead
 | .row e sz xs => .row e sz xs
 | .blk t cs => .blk t (upL ids m cs)
 | .mp a n es => .mp a n es
def upsL (ids : List Nat) (m : Nat) : Nat → List Chunk → List (Nat × Chunk)
 | _, [] => []
 | j, c :: r => (upI ids m j, upC ids m c) :: upsL ids m (j + 1) r
theorem upL_len (ids : List Nat) (m : Nat) : ∀ xs, (upL ids m xs).length = xs.length
 | [] => rfl
 | x :: r => by simp [upL, upL_len ids m r]
def scalA : AV → Bool
 | .c (.v _) => true
 | .c (.sl _ []) => false
 | _ => false
def scal : AV → Bool
 | .tup xs => xs.all scalA
 | .agg xs => xs.all scalA
 | x => scalA x
section
variable {P : Program} {W : World} {N U F : Nat → Prop} {β : Nat → Option Bind} {h hT : Nat → Chunk} {w : World}
theorem scalA_run {x : AV} (hx : scalA x = true) {U' F' : Nat → Prop} {β' : Nat → Option Bind} {w' : World} {v : Value} (h : RelA U w F β x v) : RelA U' w' F' β' x v := by
 unfold scalA at hx
 split at hx
 ·simpa only [RelA, RelP] using h
 ·simp at hx
 ·simp at hx
theorem scalL_run {U' F' : Nat → Prop} {β' : Nat → Option Bind} {w' : World} : ∀ {xs : List AV} {vs : List Value}, xs.all scalA = true → RelL U w F β xs vs → RelL U' w' F' β' xs vs
 | [], _, _, h => by simp only [RelL] at h ⊢; exact h
 | x :: r, vs, hx, h => by
  simp only [List.all_cons, Bool.and_eq_true] at hx
  simp only [RelL] at h ⊢
  obtain ⟨u, us, rfl, h1, h2⟩ := h
  exact ⟨u, us, rfl, scalA_run hx.1 h1, scalL_run hx.2 h2⟩
theorem scal_run {x : AV} (hx : scal x = true) {U' F' : Nat → Prop} {β' : Nat → Option Bind} {w' : World} {v : Value} (h : RelA U w F β x v) : RelA U' w' F' β' x v := by
 unfold scal at hx
 split at hx
 ·simp only [RelA] at h ⊢
  obtain ⟨vs, rfl, h1⟩ := h
  exact ⟨vs, rfl, scalL_run hx h1⟩
 ·simp only [RelA] at h ⊢
  obtain ⟨vs, rfl, h1, h2⟩ := h
  exact ⟨vs, rfl, scalL_run hx h1, h2⟩
 ·exact scalA_run hx h
mutual
theorem up_run {ids : List Nat} {m : Nat} {U' F' : Nat → Prop} {β' : Nat → Option Bind} {k : Nat} (hK : ∀ b, F b → F' b) (hU : ∀ j, j < k → U' (upI ids m j)) (hb : ∀ j bd, j < k → β' (upI ids m j) = some bd → β j = some bd) : ∀ (x : AV) (v : Value), RelA (· < k) w F β x v → RelA U' w F' β' (up ids m x) v
 | .undef, v, hv => by simp only [up, RelA]
 | .c p, v, hv => by simp only [up, RelA] at hv ⊢; exact RelP.mono (fun b hb => ⟨hK b hb, rfl⟩) _ _ hv
 | .agg xs, v, hv => by
  simp only [up, RelA] at hv ⊢
  obtain ⟨vs, rfl, k1, k2⟩ := hv
  exact ⟨vs, rfl, upL_run hK hU hb xs _ k1, k2⟩
 | .tup xs, v, hv => by
  simp only [up, RelA] at hv ⊢
  obtain ⟨vs, rfl, k1⟩ := hv
  exact ⟨vs, rfl, upL_run hK hU hb xs _ k1⟩
 | .own id, v, hv => by
  simp only [up, RelA] at hv ⊢
  exact ⟨hU _ hv.1, hv.2.1, fun bd hbd => hv.2.2 bd (hb _ _ hv.1 hbd)⟩
 | .view id o l, v, hv => by
  simp only [up, RelA] at hv ⊢
  exact ⟨hU _ hv.1, hv.2.1, fun bd hbd => hv.2.2 bd (hb _ _ hv.1 hbd)⟩
 | .ptr id i o, v, hv => by
  simp only [up, RelA] at hv ⊢
  exact ⟨hU _ hv.1, hv.2.1, fun bd hbd => hv.2.2 bd (hb _ _ hv.1 hbd)⟩
 | .fel sz xs i o, v, hv => by
  simp only [up, RelA] at hv ⊢
  obtain ⟨b, p, rfl, hb', hE⟩ := hv
  exact ⟨b, p, rfl, hK b hb', RelE.mono (fun b hb => ⟨hK b hb, rfl⟩) rfl _ _ _ hE⟩
 | .clo f a b, v, hv => by
  simp only [up, RelA] at hv ⊢
  obtain ⟨fs, cs, rfl, k1, k2⟩ := hv
  exact ⟨fs, cs, rfl, upL_run hK hU hb a _ k1, upL_run hK hU hb b _ k2⟩
 | .ifc t x, v, hv => by
  simp only [up, RelA] at hv ⊢
  obtain ⟨y, rfl, k1⟩ := hv
  exact ⟨y, rfl, up_run hK hU hb x y k1⟩
 | .map id, v, hv => by
  simp only [up, RelA] at hv ⊢
  exact ⟨hU _ hv.1, hv.2.1, fun bd hbd => hv.2.2 bd (hb _ _ hv.1 hbd)⟩
 | .opt t x, v, hv => by
  simp only [up, RelA] at hv ⊢
  exact ⟨fun ht => up_run hK hU hb x v (hv.1 ht), hv.2⟩
theorem upL_run {ids : List Nat} {m : Nat} {U' F' : Nat → Prop} {β' : Nat → Option Bind} {k : Nat} (hK : ∀ b, F b → F' b) (hU : ∀ j, j < k → U' (upI ids m j)) (hb : ∀ j bd, j < k → β' (upI ids m j) = some bd → β j = some bd) : ∀ (xs : List AV) (vs : List Value), RelL (· < k) w F β xs vs → RelL U' w F' β' (upL ids m xs) vs
 | [], vs, hv => by simp only [upL, RelL] at hv ⊢; exact hv
 | x :: r, vs, hv => by
  simp only [upL, RelL] at hv ⊢
  obtain ⟨u, us, rfl, k1, k2⟩ := hv
  exact ⟨u, us, rfl, up_run hK hU hb x u k1, upL_run hK hU hb r us k2⟩
end
def Wk (x y : AV) : Prop := ∀ (U : Nat → Prop) (w : World) (F : Nat → Prop) (β : Nat → Option Bind) (v : Value), RelA U w F β x v → RelA U w F β y v
def WkL : List AV → List AV → Prop
 | [], [] => True
 | x :: r, y :: s => Wk x y ∧ WkL r s
 | _, _ => False
theorem Wk.refl (x : AV) : Wk x x := fun _ _ _ _ _ h => h
theorem Wk.of {x y : AV} (h : x = y) : Wk x y := h ▸ Wk.refl x
theorem WkL.refl : ∀ xs, WkL xs xs
 | [] => trivial
 | x :: r => ⟨Wk.refl x, WkL.refl r⟩
theorem Wk.undef (x : AV) : Wk x .undef := fun _ _ _ _ _ _ => by simp only [RelA]
theorem Wk.nil (sz : Nat) : Wk (.c (.v (.slice none 0 0))) (.c (.sl sz [])) := fun _ _ _ _ v h => by
 obtain ⟨rfl, _⟩ := relC.1 h
 simp only [RelA, RelP]
 exact ⟨none, 0, rfl, Nat.le_refl _, Nat.zero_le _, .inl trivial⟩
theorem WkL.run {xs ys : List AV} (hw : WkL xs ys) {vs : List Value} (h : RelL U w F β xs vs) : RelL U w F β ys vs := by
 induction xs generalizing ys vs with
 | nil => cases ys with
  | nil => exact h
  | cons => exact hw.elim
 | cons x r ih => cases ys with
  | nil => exact hw.elim
  | cons y s =>
   simp only [RelL] at h ⊢
   obtain ⟨u, us, rfl, h1, h2⟩ := h
   exact ⟨u, us, rfl, hw.1 _ _ _ _ _ h1, ih hw.2 h2⟩
theorem Wk.agg {xs ys : List AV} (h : WkL xs ys) : Wk (.agg xs) (.agg ys) := fun _ _ _ _ v hv => by
 simp only [RelA] at hv ⊢
 obtain ⟨vs, rfl, h1, h2⟩ := hv
 exact ⟨vs, rfl, h.run h1, h2⟩
theorem Wk.tup {xs ys : List AV} (h : WkL xs ys) : Wk (.tup xs) (.tup ys) := fun _ _ _ _ v hv => by
 simp only [RelA] at hv ⊢
 obtain ⟨vs, rfl, h1⟩ := hv
 exact ⟨vs, rfl, h.run h1⟩
theorem WkL.len : ∀ {xs ys : List AV}, WkL xs ys → xs.length = ys.length
 | [], [], _ => rfl
 | [], _ :: _, h => h.elim
 | _ :: _, [], h => h.elim
 | _ :: r, _ :: s, h => by simp [WkL.len h.2]
def WkC : Chunk → Chunk → Prop
 | _, .dead => True
 | .row e sz xs, .row e' sz' ys => e = e' ∧ sz = sz' ∧ xs = ys
 | .blk t cs, .blk t' ds => t = t' ∧ WkL cs ds
 | .mp a n es, .mp a' n' es' => a = a' ∧ n = n' ∧ es = es'
 | _, _ => False
theorem WkC.run {c d : Chunk} (hw : WkC c d) {bd : Bind} (h : ChOk U w F β bd c) : ChOk U w F β bd d := by
 cases d with
 | dead => trivial
 | row e sz xs => cases c with
  | row e' sz' ys => obtain ⟨rfl, rfl, rfl⟩ := hw; exact h
  | dead => exact hw.elim
  | blk => exact hw.elim
  | mp => exact hw.elim
 | blk t ds => cases c with
  | blk t' cs =>
   obtain ⟨rfl, hl⟩ := hw
   obtain ⟨k1, k2, g, vs, k3, k4, k5, k6, k7⟩ := h
   exact ⟨by rw [← hl.len]; exact k1, k2, g, vs, k3, k4, k5, hl.run k6, k7⟩
  | dead => exact hw.elim
  | row => exact hw.elim
  | mp => exact hw.elim
 | mp a n es => cases c with
  | mp a' n' es' => obtain ⟨rfl, rfl, rfl⟩ := hw; exact h
  | dead => exact hw.elim
  | row => exact hw.elim
  | blk => exact hw.elim
theorem WkC.refl : ∀ c, WkC c c
 | .dead => trivial
 | .row _ _ _ => ⟨rfl, rfl, rfl⟩
 | .blk _ cs => ⟨rfl, WkL.refl cs⟩
 | .mp _ _ _ => ⟨rfl, rfl, rfl⟩
def noC (_ : Nat) : Chunk := .dead
def CallOk (P : Program) (f : FuncId) (args : List AV) (h : Nat → Chunk) (m : Nat) (e : Eff) : Prop :=
 (∃ ids args' hs r hs', ids.Nodup ∧ WkL (cvL ids noC args) args' ∧ hs = ids.map (fun id => cvC ids noC (h id)) ∧ (∀ id ∈ ids, h id ≠ .dead) ∧ Spec P f args' hs r hs' ∧ e = ⟨up ids m r, upsL ids m 0 hs', hs'.length - ids.length⟩) ∨
 (∃ args' r, scal r = true ∧ WkL (cvL [] h args) args' ∧ Spec P f args' [] r [] ∧ e = ⟨r, [], 0⟩)
theorem frzF_noC (ids : List Nat) : frzF ids noC F β = F := by
 funext b
 apply propext
 constructor
 ·rintro (h | ⟨_, _, _, h, _⟩)
  ·exact h
  ·exact (h rfl).elim
 ·exact .inl
theorem MemOk.here (M : MemOk W N U F β h w) : MemOk w (inB β) U F β h w :=
 ⟨Nat.le_refl _, rfl, rfl, rfl, fun _ _ _ => rfl, M.fin, M.used, M.ch, M.dis, fun i bd b hb hbb => ⟨(M.off i bd b hb hbb).1, (M.off i bd b hb hbb).2.1, .inr ⟨i, bd, hb, hbb⟩⟩⟩
theorem selB_some {ids : List Nat} {j : Nat} {bd : Bind} (hj : selB ids β j = some bd) : ∃ id, ids[j]? = some id ∧ β id = some bd := by
 unfold selB at hj
 split at hj
 ·exact ⟨_, by assumption, hj⟩
 ·simp at hj
theorem upd_upsL {ids : List Nat} {m : Nat} (i : Nat) : ∀ (j : Nat) (hs : List Chunk), (∀ k, upI ids m (j + k) = i → k < hs.length → False) → upd h (upsL ids m j hs) i = h i
 | _, [], _ => rfl
 | j, c :: r, hn => by
  simp only [upsL, upd]
  rw [if_neg (fun e => hn 0 (by simpa using e) (by simp))]
  exact upd_upsL i (j + 1) r fun k hk hl => hn (k + 1) (by rw [show j + (k + 1) = j + 1 + k from by omega]; exact hk) (by simpa using hl)
theorem upd_upsL_at {ids : List Nat} {m K : Nat} (hinj : ∀ a b, a < K → b < K → upI ids m a = upI ids m b → a = b) : ∀ (j : Nat) (hs : List Chunk), j + hs.length ≤ K → ∀ (k : Nat) (c : Chunk), hs[k]? = some c → upd h (upsL ids m j hs) (upI ids m (j + k)) = upC ids m c
 | _, [], _, _, _, hc => by simp at hc
 | j, d :: r, hl, k, c, hc => by
  simp only [List.length_cons] at hl
  simp only [upsL, upd]
  cases k with
  | zero => simp only [List.getElem?_cons_zero, Option.some.injEq] at hc; subst hc; simp
  | succ k =>
   have hk : k < r.length := (List.getElem?_eq_some_iff.1 (by simpa using hc)).1
   rw [if_neg (fun e => by have := hinj _ _ (by omega) (by omega) e; omega)]
   have := upd_upsL_at hinj (j + 1) r (by omega) k c (by simpa using hc)
   rwa [show j + 1 + k = j + (k + 1) from by omega] at this
theorem call_strict (M : MemOk W N U F β h w) (hs : ∀ id, hT id ≠ .dead → hT id = h id) {f : FuncId} {args args' : List AV} {ids : List Nat} {r : AV} {hs' : List Chunk} {m : Nat} (hnd : ids.Nodup) (hwk : WkL (cvL ids noC args) args') (hal : ∀ id ∈ ids, hT id ≠ .dead)
 (S : Spec P f args' (ids.map fun id => cvC ids noC (hT id)) r hs') (hm : ∀ i, m ≤ i → i < m + (hs'.length - ids.length) → ¬ U i) {vs : List Value} (hv : RelL U w F β args vs) :
 Calls P f vs.toArray w fun e w' => ∃ v, e = .returned v ∧ StepTo W N U F β h w m ⟨up ids m r, upsL ids m 0 hs', hs'.length - ids.length⟩ v w' := by
 obtain ⟨_, hle, S⟩ := S
 simp only [List.length_map] at hle S
 have hal' : ∀ id ∈ ids, h id ≠ .dead := fun id hi => by rw [← hs id (hal id hi)]; exact hal id hi
 have hUid : ∀ id ∈ ids, U id := fun id hi => by
  obtain ⟨bd, hb, _⟩ := M.ch id (hal' id hi)
  exact M.used id bd hb
 have heq : (ids.map fun id => cvC ids noC (hT id)) = ids.map fun id => cvC ids noC (h id) := by
  apply List.map_congr_left
  intro id hi
  rw [hs id (hal id hi)]
 have M1 := (cv_mem (hT := noC) M (fun id hd => (hd rfl).elim) ids hnd).here
 have hv1 := hwk.run (cvL_run (hT := noC) M (fun id hd => (hd rfl).elim) ids args vs hv)
 rw [frzF_noC] at M1 hv1
 rw [heq] at S
 refine (S w F (selB ids β) vs M1 hv1).mono ?_
 rintro e w' ⟨v, F', β', rfl, M2, hr, hF, hF', hβ⟩
 refine ⟨v, rfl, ?_⟩
 -- how the callee's numbers stand to the caller's
 have lo : ∀ j, j < ids.length → ids[j]? = some (upI ids m j) ∧ upI ids m j ∈ ids := by
  intro j hj
  have : ids[j]? = some ids[j] := List.getElem?_eq_getElem hj
  unfold upI
  rw [this]
  exact ⟨rfl, List.getElem_mem hj⟩
 have hi : ∀ j, ids.length ≤ j → upI ids m j = m + (j - ids.length) := by
  intro j hj
  unfold upI
  rw [List.getElem?_eq_none hj]
 have hinj : ∀ a b, a < hs'.length → b < hs'.length → upI ids m a = upI ids m b → a = b := by
  intro a b ha hb hab
  by_cases h1 : a < ids.length <;> by_cases h2 : b < ids.length
  ·exact (List.getElem?_inj h1 hnd).1 (by rw [(lo a h1).1, (lo b h2).1, hab])
  ·exfalso
   rw [hi b (by omega)] at hab
   exact hm _ (by omega) (by omega) (hab ▸ hUid _ (lo a h1).2)
  ·exfalso
   rw [hi a (by omega)] at hab
   exact hm _ (by omega) (by omega) (hab ▸ hUid _ (lo b h2).2)
  ·rw [hi a (by omega), hi b (by omega)] at hab; omega
 let β2 : Nat → Option Bind := fun i => match ix ids i with | some j => β' j | none => if m ≤ i ∧ i < m + (hs'.length - ids.length) then β' (i - m + ids.length) else β i
 have ixin : ∀ i, i ∈ ids → ∃ j, ix ids i = some j := by
  intro i hin
  cases hx : ix ids i with
  | none => exact (ix_none hx hin).elim
  | some j => exact ⟨j, rfl⟩
 have hb2 : ∀ j, j < hs'.length → β2 (upI ids m j) = β' j := by
  intro j hj
  by_cases h1 : j < ids.length
  ·obtain ⟨j', hj'⟩ := ixin _ (lo j h1).2
   have h2 := ix_some hj'
   have : j = j' := (List.getElem?_inj h1 hnd).1 (by rw [(lo j h1).1, h2])
   subst this
   simp only [β2, hj']
  ·have hno : ix ids (upI ids m j) = none := by
    cases hx : ix ids (upI ids m j) with
    | none => rfl
    | some j' =>
     exfalso
     have h2 := List.mem_of_getElem? (ix_some hx)
     rw [hi j (by omega)] at h2
     exact hm _ (by omega) (by omega) (hUid _ h2)
   simp only [β2, hno]
   rw [hi j (by omega), if_pos (by omega)]
   congr 1; omega
 let T : Nat → Prop := fun i => ∃ j, j < hs'.length ∧ upI ids m j = i
 have hnotT : ∀ i, ¬ T i → β2 i = β i := by
  intro i hT'
  have hno : ix ids i = none := by
   cases hx : ix ids i with
   | none => rfl
   | some j =>
    have h2 := ix_some hx
    have hj := (List.getElem?_eq_some_iff.1 h2).1
    refine (hT' ⟨j, by omega, ?_⟩).elim
    have := (lo j hj).1
    rw [h2] at this
    exact (Option.some.inj this).symm
  simp only [β2, hno]
  rw [if_neg]
  rintro ⟨h1, h2⟩
  exact hT' ⟨i - m + ids.length, by omega, by rw [hi _ (by omega)]; omega⟩
 have hinB : ∀ b, inB (selB ids β) b → ∃ j bd, T j ∧ β j = some bd ∧ bd.b = some b := by
  rintro b ⟨j, bd, hj, hb⟩
  obtain ⟨id, h1, h2⟩ := selB_some hj
  have hjl := (List.getElem?_eq_some_iff.1 h1).1
  refine ⟨id, bd, ⟨j, by omega, ?_⟩, h2, hb⟩
  have := (lo j hjl).1
  rw [h1] at this
  exact (Option.some.inj this).symm
 have hUT : ∀ j, j < hs'.length → U (upI ids m j) ∨ (m ≤ upI ids m j ∧ upI ids m j < m + (hs'.length - ids.length)) := by
  intro j hj
  by_cases h1 : j < ids.length
  ·exact .inl (hUid _ (lo j h1).2)
  ·rw [hi j (by omega)]; exact .inr ⟨by omega, by omega⟩
 obtain ⟨S1, S2⟩ := M.step (w' := w') (h' := upd h (upsL ids m 0 hs')) (β' := β2) (F' := F') (U' := fun i => U i ∨ (m ≤ i ∧ i < m + (hs'.length - ids.length))) T hnotT
  (fun i hT' => upd_upsL i 0 hs' fun k hk hl => hT' ⟨k, hl, by simpa using hk⟩) M2.os M2.tape M2.output M2.size
  (fun b hb hn => M2.frame b hb fun hin => by
   obtain ⟨j, bd, h1, h2, h3⟩ := hinB b hin
   exact hn j bd h1 h2 h3)
  (fun i hu => .inl hu) hF
  (fun b hb => ⟨M2.fin b hb, by
   rcases hF' b hb with h1 | h1 | h1
   ·exact .inl h1
   ·exact .inr (.inl h1)
   ·exact .inr (.inr (hinB b h1))⟩)
  (fun i bd hT' hu hb => by
   obtain ⟨j, hj, rfl⟩ := hT'
   rw [hb2 j hj] at hb
   by_cases h1 : j < ids.length
   ·obtain ⟨id, k1, k2⟩ := selB_some (hβ j bd (by simpa using h1) hb)
    have := (lo j h1).1
    rw [k1] at this
    rw [← Option.some.inj this]; exact k2
   ·exfalso
    rw [hi j (by omega)] at hu
    exact hm _ (by omega) (by omega) hu)
  (fun i bd hT' hb => by
   obtain ⟨j, hj, rfl⟩ := hT'
   rw [hb2 j hj] at hb
   refine ⟨hUT j hj, fun b hbb => ?_⟩
   obtain ⟨k1, k2, k3⟩ := M2.off j bd b hb hbb
   exact ⟨k2, k1, k3.imp id (hinB b)⟩)
  (fun i j bi bj b hTi hTj hbi hbj h1 h2 => by
   obtain ⟨x, hx, rfl⟩ := hTi
   obtain ⟨y, hy, rfl⟩ := hTj
   rw [hb2 x hx] at hbi
   rw [hb2 y hy] at hbj
   rw [M2.dis x y bi bj b hbi hbj h1 h2])
  (fun E i hT' hd => by
   obtain ⟨j, hj, rfl⟩ := hT'
   have hc : hs'[j]? = some hs'[j] := List.getElem?_eq_getElem hj
   have hu := upd_upsL_at (h := h) hinj 0 hs' (by omega) j _ hc
   rw [Nat.zero_add] at hu
   rw [hu] at hd ⊢
   have hnth : nth hs' j = hs'[j] := by unfold nth; simp [hj]
   have hne : nth hs' j ≠ .dead := by
    intro he
    rw [hnth] at he
    rw [he] at hd
    exact hd rfl
   obtain ⟨bd, hb, hk⟩ := M2.ch j hne
   rw [hnth] at hk
   refine ⟨bd, by rw [hb2 j hj]; exact hb, ?_⟩
   cases hcc : hs'[j] with
   | dead => trivial
   | row e sz xs => rw [hcc] at hk; exact hk
   | blk t cs =>
    rw [hcc] at hk
    obtain ⟨k1, k2, g, ws, k3, k4, k5, k6, k7⟩ := hk
    exact ⟨by rw [upL_len]; exact k1, k2, g, ws, k3, k4, k5, upL_run (fun b hb => hb) hUT (fun j bd hj hb => by rw [hb2 j hj] at hb; exact hb) _ _ k6, k7⟩
   | mp a n es => rw [hcc] at hk; exact hk)
 refine ⟨F', β2, S1, S2, up_run (fun b hb => hb) hUT (fun j bd hj hb => by rw [hb2 j hj] at hb; exact hb) _ _ hr, fun b hb => ?_⟩
 rcases hF' b hb with h1 | h1 | h1
 ·exact .inl h1
 ·exact .inr (.inl (Nat.le_trans M.size h1))
 ·obtain ⟨j, bd, _, k1, k2⟩ := hinB b h1
  exact .inr (M.off j bd b k1 k2).2.2
theorem call_lend (M : MemOk W N U F β h w) (hs : ∀ id, hT id ≠ .dead → hT id = h id) {f : FuncId} {args args' : List AV} {r : AV} (m : Nat) (hsc : scal r = true) (hwk : WkL (cvL [] hT args) args') (S : Spec P f args' [] r []) {vs : List Value} (hv : RelL U w F β args vs) :
 Calls P f vs.toArray w fun e w' => ∃ v, e = .returned v ∧ StepTo W N U F β h w m ⟨r, [], 0⟩ v w' := by
 obtain ⟨_, hle, S⟩ := S
 have M1 := (cv_mem M hs [] (by simp)).here
 have hv1 := hwk.run (cvL_run M hs [] args vs hv)
 have e0 : selB [] β = fun _ => none := by funext j; simp [selB]
 refine (S w _ _ vs M1 hv1).mono ?_
 rintro e w' ⟨v, F', β', rfl, M2, hr, hF, hF', hβ⟩
 refine ⟨v, rfl, ?_⟩
 obtain ⟨S1, S2⟩ := M.step (w' := w') (h' := h) (β' := β) (F' := F) (U' := U) (fun _ => False) (fun _ _ => rfl) (fun _ _ => rfl) M2.os M2.tape M2.output M2.size
  (fun b hb _ => M2.frame b hb (by rintro ⟨j, bd, hj, _⟩; rw [e0] at hj; simp at hj)) (fun _ h => h) (fun _ h => h) (fun b hb => ⟨Nat.lt_of_lt_of_le (M.fin b hb) M2.size, .inl hb⟩)
  (fun _ _ h => h.elim) (fun _ _ h => h.elim) (fun _ _ _ _ _ h => h.elim) (fun _ _ h => h.elim)
 have e : (fun i => U i ∨ (m ≤ i ∧ i < m + 0)) = U := by
  funext i; apply propext; constructor
  ·rintro (h | h)
   ·exact h
   ·omega
  ·exact .inl
 refine ⟨F, β, ?_, ?_, ?_, fun b hb => .inl hb⟩
 ·simp only [e]; exact S1
 ·simp only [e]; exact S2
 ·simp only [e]; exact scal_run hsc hr
end
end Go.Proofs.YthiddmncjafklaaGreat
namespace Go.Proofs.YthiddmncjafklaaGreat
set_option linter.all false
open Go.RowKit
structure St where
 t : List (Nat × AV)
 h : List (Nat × Chunk)
 n : Nat
def putO : Option Tmp → AV → List (Nat × AV) → List (Nat × AV)
 | none, _, t => t
 | some d, x, t => (d, x) :: t
def St.app (s : St) (d : Option Tmp) (e : Eff) : St := ⟨putO d e.val s.t, e.ups ++ s.h, s.n + e.fresh⟩
def strip : AV → AV
 | .opt _ x => x
 | x => x
def stripsT : List AV → Prop
 | [] => True
 | .opt u _ :: r => u = true ∧ stripsT r
 | _ :: r => stripsT r
def gcond (x : AV) (b : Bool) : Option Bool :=
 match x with
 | .c (.v (.bool t)) => some (if b then t else !t)
 | .opt u (.c (.v (.bool t))) => some (u && (if b then t else !t))
 | _ => none
def CallG (P : Program) (f : FuncId) (args : List AV) (h : Nat → Chunk) (m : Nat) (K : Eff → Prop) : Prop := ∃ e, CallOk P f args h m e ∧ K e
def GCall (P : Program) (c : Bool) (f : FuncId) (args : List AV) (φ : Prop) (h : Nat → Chunk) (m : Nat) (K : Eff → Prop) : Prop :=
 (∃ r, (c = true → φ ∧ CallOk P f args h m ⟨r, [], 0⟩) ∧ K ⟨.opt c r, [], 0⟩) ∨ ((c = true → φ ∧ ∃ e, CallOk P f args h m e ∧ K e) ∧ (c = false → K ⟨.undef, [], 0⟩))
def opX (P : Program) (g : Operand → AV) (h : Nat → Chunk) (m : Nat) (K : Eff → Prop) (op : Op) : Prop :=
 match op with
 | .call ⟨.value f, args, _⟩ => match g f with
  | .clo (.func fid) a b => CallG P fid (a ++ args.toList.map g ++ b) h m K
  | _ => False
 | .call ⟨.invoke r name, args, _⟩ => match invA P h (g r) name with
  | some (φ, fid, y) => φ ∧ CallG P fid (y :: args.toList.map g) h m K
  | none => False
 | op => match ex3 P g h m op with
  | some (φ, e) => φ ∧ K e
  | none => False
def opG (P : Program) (c : Bool) (g : Operand → AV) (h : Nat → Chunk) (m : Nat) (K : Eff → Prop) (op : Op) : Prop :=
 match op with
 | .call ⟨.value f, args, ts⟩ => match strip (g f) with
  | .clo (.func fid) a b => GCall P c fid (a ++ args.toList.map (fun x => strip (g x)) ++ b) (stripsT ((Op.operands (.call ⟨.value f, args, ts⟩)).toList.map g)) h m K
  | _ => c = false ∧ K ⟨.undef, [], 0⟩
 | .call ⟨.invoke r name, args, ts⟩ => match invA P h (strip (g r)) name with
  | some (φ, fid, y) => GCall P c fid (y :: args.toList.map (fun x => strip (g x))) (φ ∧ stripsT ((Op.operands (.call ⟨.invoke r name, args, ts⟩)).toList.map g)) h m K
  | none => c = false ∧ K ⟨.undef, [], 0⟩
 | .pick cn x y => match strip (g cn) with
  | .c (.v (.bool t)) => match pickAV t (g x) (g y) with
   | some (φ, r) => (c = true → stripsT [g cn] ∧ φ) ∧ K ⟨.opt c r, [], 0⟩
   | none => c = false ∧ K ⟨.undef, [], 0⟩
  | _ => c = false ∧ K ⟨.undef, [], 0⟩
 | op => match ex3 P (fun x => strip (g x)) h m op with
  | some (φ, ⟨x, [], 0⟩) => (c = true → stripsT (op.operands.toList.map g) ∧ φ) ∧ K ⟨.opt c x, [], 0⟩
  | some (φ, e) => (c = true → stripsT (op.operands.toList.map g) ∧ φ ∧ K e) ∧ (c = false → K ⟨.undef, [], 0⟩)
  | none => c = false ∧ K ⟨.undef, [], 0⟩
def dstOk (nt : Nat) : Option Tmp → Prop
 | none => True
 | some d => d < nt
def dstV (f : Nat → AV) : Option Tmp → AV
 | none => .undef
 | some d => f d
def opWF (P : Program) (ops : Array Oper) (o : Oper) (f : Nat → AV) (h : Nat → Chunk) (m : Nat) (K : Eff → Prop) : Prop :=
 match o.guard with
 | none => opX P (getO f) h m K o.op
 | some (j, b) => match gcond (dstV f ((ops[j]?).bind (·.dst))) b with
  | none => False
  | some c => opG P c (getO f) h m K o.op
def nilCmp (P : Program) (g : Operand → AV) (h : Nat → Chunk) : Op → Option (Bool × List (List PV))
 | .binOp .eql t x (.const (.slice none 0 0)) _ => match ty P t, slOf h (g x) with
  | some ⟨.sl _, _, _, _, _⟩, some (_, xs) => some (false, xs)
  | _, _ => none
 | .binOp .neq t x (.const (.slice none 0 0)) _ => match ty P t, slOf h (g x) with
  | some ⟨.sl _, _, _, _, _⟩, some (_, xs) => some (true, xs)
  | _, _ => none
 | _ => none
def xorB (a b : Bool) : Bool := match a with | true => !b | false => b
def opK (t : List (Nat × AV)) (h : List (Nat × Chunk)) (n : Nat) (d : Option Tmp) (K : St → Prop) : Eff → Prop
 | ⟨v, ups, fr⟩ => K ⟨putO d v t, ups ++ h, n + fr⟩
theorem opK_eq (s : St) (d : Option Tmp) (K : St → Prop) (e : Eff) : opK s.t s.h s.n d K e = K (s.app d e) := by cases e; rfl
def opW (P : Program) (nt : Nat) (ops : Array Oper) (o : Oper) (s : St) (K : St → Prop) : Prop :=
 dstOk nt o.dst ∧ match nilCmp P (getO (look s.t)) (lookC s.h) o.op with
 | some (neg, xs) => o.guard = none ∧ ∀ b : Bool, (b = true → xs = []) → K (s.app o.dst ⟨B (xorB neg b), [], 0⟩)
 | none => opWF P ops o (look s.t) (lookC s.h) s.n (opK s.t s.h s.n o.dst K)
def awpL (P : Program) (nt : Nat) (ops : Array Oper) : List Oper → (St → Prop) → St → Prop
 | [], K, ⟨t, h, n⟩ => K ⟨t, h, n⟩
 | o :: r, K, ⟨t, h, n⟩ => opW P nt ops o ⟨t, h, n⟩ (awpL P nt ops r K)
def seqK (k : St → Prop) (Q : Exit → St → Prop) : Exit → St → Prop
 | .normal, s => k s
 | e, s => Q e s
def blkK (id : Nat) (Q : Exit → St → Prop) : Exit → St → Prop
 | .exit i, s => if i = id then Q .normal s else Q (.exit i) s
 | e, s => Q e s
def scoK (Q : Exit → St → Prop) : Exit → St → Prop
 | .goto _, _ => False
 | e, s => Q e s
def CondG (x : AV) (X Y : St → Prop) (s : St) : Prop :=
 match x with
 | .c (.v (.bool b)) => (b = true → X s) ∧ (b = false → Y s)
 | _ => False
structure Hist where
 W : World
 N : Nat → Prop
 F : Nat → Prop
 β : Nat → Option Bind
 k : Nat
 nt : Nat
def Dfr (F : Nat → Prop) (B : Nat) (ds : List Deferred) (w : World) : Prop := ∃ Ds : List Nat, ds = Ds.map (fun D => { target := .collected D, args := #[] }) ∧ Ds.Nodup ∧ ∀ D ∈ Ds, F D ∧ B ≤ D ∧ w.heap[D]? = some (.deferred (some []))
theorem Dfr.nil (F : Nat → Prop) (B : Nat) (w : World) : Dfr F B [] w := ⟨[], rfl, List.nodup_nil, fun _ h => by simp at h⟩
theorem Dfr.mono {F F' : Nat → Prop} {B : Nat} {ds : List Deferred} {w w' : World} (h : Dfr F B ds w) (K : Keeps w F w' F') : Dfr F' B ds w' := by
 obtain ⟨Ds, h1, h2, h3⟩ := h
 exact ⟨Ds, h1, h2, fun D hD => ⟨(K D (h3 D hD).1).1, (h3 D hD).2.1, (K D (h3 D hD).1).2.trans (h3 D hD).2.2⟩⟩
theorem Dfr.more {F F' : Nat → Prop} {B : Nat} {ds : List Deferred} {w : World} (h : Dfr F B ds w) (K : ∀ b, F b → F' b) : Dfr F' B ds w := h.mono fun b hb => ⟨K b hb, rfl⟩
structure Conc (H : Hist) (s : St) (F : Nat → Prop) (β : Nat → Option Bind) (a : Act) (w : World) : Prop where
 t : ∀ t, RelA (· < s.n) w F β (look s.t t) (a.tmps.getD t undef)
 m : MemOk H.W H.N (· < s.n) F β (lookC s.h) w
 nt : a.tmps.size = H.nt
 d : Dfr F H.W.heap.size a.defers w
 f : ∀ b, H.F b → F b
 g : ∀ b, F b → H.F b ∨ H.W.heap.size ≤ b ∨ H.N b
 e : ∀ i bd, i < H.k → β i = some bd → H.β i = some bd
 k : H.k ≤ s.n
def ToK (k : Nat) (s s' : St) : Prop := ∀ (H : Hist) (F : Nat → Prop) (β : Nat → Option Bind) (a : Act) (w : World), H.k = k → Conc H s F β a w → ∃ F' β', Conc H s' F' β' a w
def LoopG (k : Nat) (A : (Exit → St → Prop) → St → Prop) (Q : Exit → St → Prop) (s : St) : Prop :=
 ∃ (α : Type) (S : α → St) (Pr : α → Prop) (μ : α → Nat), (∃ x, Pr x ∧ ToK k s (S x)) ∧ ∀ x, Pr x → A (fun e s' => match e with
  | .normal => ∃ y, Pr y ∧ μ y < μ x ∧ ToK k s' (S y)
  | e => Q e s') (S x)
def joinK {α : Type} (k : Nat) (S : α → St) (Pr : α → Prop) (Q : Exit → St → Prop) : Exit → St → Prop := fun e s => match e with
 | .normal => ∃ a, Pr a ∧ ToK k s (S a)
 | e => Q e s
def CondJ (k : Nat) (x : AV) (X Y : (Exit → St → Prop) → St → Prop) (Q : Exit → St → Prop) (s : St) : Prop :=
 CondG x (X Q) (Y Q) s ∨ ∃ (α : Type) (S : α → St) (Pr : α → Prop), CondG x (X (joinK k S Pr Q)) (Y (joinK k S Pr Q)) s ∧ ∀ a, Pr a → Q .normal (S a)
mutual
/-- The pieces that a value names. -/
def idsA : AV → List Nat
 | .undef => []
 | .c _ => []
 | .agg xs => idsL xs
 | .tup xs => idsL xs
 | .own id => [id]
 | .view id _ _ => [id]
 | .ptr id _ _ => [id]
 | .fel _ _ _ _ => []
 | .clo _ a b => idsL a ++ idsL b
 | .ifc _ x => idsA x
 | .map id => [id]
 | .opt _ x => idsA x
def idsL : List AV → List Nat
 | [] => []
 | x :: r => idsA x ++ idsL r
end
def cellIds (L : List (Nat × Chunk)) : List Nat → List Nat
 | [] => []
 | id :: r => (match lookC L id with | .blk _ cs => idsL cs | _ => []) ++ cellIds L r
def touch2 (L : List (Nat × Chunk)) (a : List Nat) : List Nat := a ++ cellIds L a
def touch (f : Nat → AV) (L : List (Nat × Chunk)) (o : Oper) : List Nat := match o.op with
 | .move _ => []
 | .assign _ => []
 | .nilCheck x => idsA (getO f x)
 | .fieldAddr _ x _ => idsA (getO f x)
 | .load _ x => idsA (getO f x)
 | op => touch2 L (touch2 L (idsL (op.operands.toList.map (getO f))))
def memN : List Nat → Nat → Bool
 | [], _ => false
 | a :: r, i => if a = i then true else memN r i
def onlyC (T : List Nat) (h : Nat → Chunk) (i : Nat) : Chunk := match memN T i with | true => h i | false => .dead
def drK (t : List (Nat × AV)) (h : List (Nat × Chunk)) (n : Nat) (d : Option Tmp) (T : List Nat) (acc : List (List Nat × List Nat)) (R : List (List Nat × List Nat) → St → Prop) : Eff → Prop
 | ⟨v, ups, fr⟩ => fr ≤ 4 ∧ R (acc ++ [(T, ups.map (·.1))]) ⟨putO d v t, ups ++ h, n⟩
def drawL (P : Program) (nt : Nat) (ops : Array Oper) (n0 : Nat) : Nat → List Oper → List (List Nat × List Nat) → (List (List Nat × List Nat) → St → Prop) → St → Prop
 | _, [], acc, K, ⟨t, h, n⟩ => K acc ⟨t, h, n⟩
 | i, o :: r, acc, K, ⟨t, h, n⟩ => dstOk nt o.dst ∧ opWF P ops o (look t) (onlyC (touch (look t) h o) (lookC h)) (n0 + 4 * i) (drK t h n o.dst (touch (look t) h o) acc (fun acc' s' => drawL P nt ops n0 (i + 1) r acc' K s'))
def edgeMask (ms : List Nat) : List Edge → Nat
 | [] => 0
 | e :: r => if Region.binds .any e then (1 <<< e.on ||| ms.getD e.on 0) ||| edgeMask ms r else edgeMask ms r
def masks : List Oper → List Nat → List Nat
 | [], ms => ms
 | o :: r, ms => masks r (ms ++ [edgeMask ms o.after.toList])
def disj (a b : List Nat) : Bool := a.all fun x => !memN b x
def fp (acc : List (List Nat × List Nat)) (i : Nat) : List Nat × List Nat := acc.getD i ([], [])
def isLk (o : Oper) : Bool := o.guard.isNone && match o.op with | .lookup _ _ _ false => true | _ => false
def isEn (o : Oper) : Bool := o.guard.isNone && match o.op with | .mapEntry _ _ _ => true | _ => false
def lkOk (ops : Array Oper) (acc : List (List Nat × List Nat)) (i j : Nat) : Bool := (match ops[i]?, ops[j]? with | some a, some b => isLk a && isEn b | _, _ => false) && (List.range j).all fun m => Nat.ble m i || disj (fp acc i).1 (fp acc m).2
def pairOk (ops : Array Oper) (ms : List Nat) (acc : List (List Nat × List Nat)) (i j : Nat) : Bool :=
 (ms.getD j 0).testBit i || ((match ops[i]?, ops[j]? with | some a, some b => Oper.apart ops a b | _, _ => false) && disj (fp acc i).2 ((fp acc j).1 ++ (fp acc j).2) && (disj (fp acc i).1 (fp acc j).2 || lkOk ops acc i j))
def drawOk (ops : Array Oper) (acc : List (List Nat × List Nat)) : Bool :=
 let ms := masks ops.toList []
 ((List.range ops.size).all fun k => match ops[k]? with | some o => o.after.toList.all fun e => !Region.binds .any e || Nat.blt e.on k | none => false) &&
 (List.range ops.size).all fun j => (List.range j).all fun i => pairOk ops ms acc i j
def DrawG (P : Program) (nt : Nat) (ops : Array Oper) (K : St → Prop) (s : St) : Prop :=
 drawL P nt ops s.n 0 ops.toList [] (fun acc s' => drawOk ops acc = true ∧ K ⟨s'.t, s'.h, s.n + 4 * ops.size⟩) s
def Post (H : Hist) (Q : Exit → St → Prop) (e : Exit) (a : Act) (w : World) : Prop := ∃ s F β, Conc H s F β a w ∧ Q e s
def RangeG (P : Program) (nt k : Nat) (g : Operand) (ps : Array Tmp) (x y : Code) (Q : Exit → St → Prop) (s : St) : Prop :=
 ∀ (H : Hist) (F : Nat → Prop) (β : Nat → Option Bind) (a : Act) (w : World), H.nt = nt → H.k = k → Conc H s F β a w → (Code.rangeFunc g ps x y).wp P (Post H Q) a w
def awp (P : Program) (nt k : Nat) : Code → (Exit → St → Prop) → St → Prop
 | .skip, Q, ⟨t, h, n⟩ => Q .normal ⟨t, h, n⟩
 | .label _, Q, ⟨t, h, n⟩ => Q .normal ⟨t, h, n⟩
 | .region _ ops false, Q, ⟨t, h, n⟩ => awpL P nt ops ops.toList (Q .normal) ⟨t, h, n⟩
 | .region _ ops true, Q, ⟨t, h, n⟩ => DrawG P nt ops (Q .normal) ⟨t, h, n⟩
 | .seq x y, Q, ⟨t, h, n⟩ => awp P nt k x (seqK (awp P nt k y Q) Q) ⟨t, h, n⟩
 | .cond c x y, Q, ⟨t, h, n⟩ => CondJ k (getO (look t) c) (awp P nt k x) (awp P nt k y) Q ⟨t, h, n⟩
 | .block id c, Q, ⟨t, h, n⟩ => awp P nt k c (blkK id Q) ⟨t, h, n⟩
 | .loop c, Q, ⟨t, h, n⟩ => LoopG k (awp P nt k c) Q ⟨t, h, n⟩
 | .exit id, Q, ⟨t, h, n⟩ => Q (.exit id) ⟨t, h, n⟩
 | .scope c, Q, ⟨t, h, n⟩ => awp P nt k c (scoK Q) ⟨t, h, n⟩
 | .ret, Q, ⟨t, h, n⟩ => Q .ret ⟨t, h, n⟩
 | .goto _, _, _ => False
 | .rangeFunc g ps x y, Q, ⟨t, h, n⟩ => RangeG P nt k g ps x y Q ⟨t, h, n⟩
 | .refuse _, _, _ => False
theorem least {p : Nat → Prop} (h : ∃ n, p n) : ∃ n, p n ∧ ∀ m, p m → n ≤ m := by
 obtain ⟨n, hn⟩ := h
 induction n using Nat.strongRecOn with
 | _ n ih =>
  by_cases hk : ∃ m, m < n ∧ p m
  ·obtain ⟨m, hm, hp⟩ := hk
   exact ih m hm hp
  ·exact ⟨n, hn, fun m hm => Nat.le_of_not_lt fun h => hk ⟨m, h, hm⟩⟩
section
variable {P : Program} {H : Hist} {s : St} {F : Nat → Prop} {β : Nat → Option Bind} {a : Act} {w : World}
theorem upd_look (L : List (Nat × Chunk)) : ∀ ups : List (Nat × Chunk), upd (lookC L) ups = lookC (ups ++ L)
 | [] => rfl
 | (k, c) :: r => by
  funext i
  have := congrFun (upd_look L r) i
  simp only [upd, List.cons_append, lookC, this]
theorem Conc.step (C : Conc H s F β a w) {e : Eff} {v : Value} {w' : World} (S : StepTo H.W H.N (· < s.n) F β (lookC s.h) w s.n e v w') {d : Option Tmp} (hd : dstOk H.nt d) : ∃ F' β', Conc H (s.app d e) F' β' (a.put d v) w' := by
 obtain ⟨F', β', M, E, hr, hF⟩ := S
 have eU : (fun i => i < s.n ∨ (s.n ≤ i ∧ i < s.n + e.fresh)) = (· < (s.app d e).n) := by
  funext i; apply propext; simp only [St.app]; omega
 rw [eU] at M E hr
 rw [upd_look] at M
 refine ⟨F', β', ?_, M, ?_, ?_, fun b hb => (E.f b (C.f b hb)).1, fun b hb => ?_, fun i bd hi hb => C.e i bd hi (E.e i bd (Nat.lt_of_lt_of_le hi C.k) hb), Nat.le_trans C.k (Nat.le_add_right _ _)⟩
 ·intro t
  cases d with
  | none => exact RelA.mono E _ _ (C.t t)
  | some d =>
   simp only [St.app, putO, look, Act.put]
   by_cases h1 : d = t
   ·subst h1
    rw [if_pos rfl]
    have : d < a.tmps.size := by rw [C.nt]; exact hd
    rw [Array.getD_eq_getD_getElem?, Array.getElem?_setIfInBounds_self, if_pos this]
    exact hr
   ·rw [if_neg h1, Array.getD_eq_getD_getElem?, Array.getElem?_setIfInBounds_ne h1, ← Array.getD_eq_getD_getElem?]
    exact RelA.mono E _ _ (C.t t)
 ·cases d <;> simp [Act.put, C.nt]
 ·have := C.d.mono E.f
  cases d <;> simpa [Act.put] using this
 ·rcases hF b hb with h1 | h1
  ·exact C.g b h1
  ·exact .inr h1
theorem Conc.G (C : Conc H s F β a w) (x : Operand) : RelA (· < s.n) w F β (getO (look s.t) x) (a.eval x) := relO C.t x
theorem Calls.exec {P : Program} {f : FuncId} (hf : Enters P f) {ev : Operand → Value} {o : Oper} {x : Operand} {args : Array Operand} {ts : Array TypeId} (ho : o.op = .call ⟨.value x, args, ts⟩) {fs cs : Array Value} (hx : ev x = .func (.func f) fs cs) (w : World) :
 (execOp ev o).run P w = .ok (.enter f (fs ++ args.map ev ++ cs)) w := by
 obtain ⟨fn, h1, h2, h3⟩ := hf
 have h4 : fn.body.isNone = false := by cases hb : fn.body <;> simp_all
 simp only [execOp, ho, resolve, hx, Deferred.ofValue, Sem.run_bind, Sem.run_pure, Result.andThen_ok, invoke, callFunc, run_program, h1, h3, Bool.false_eq_true, if_false, h4]
theorem Calls.execI {P : Program} {f : FuncId} (hf : Enters P f) {ev : Operand → Value} {o : Oper} {x : Operand} {name : String} {args : Array Operand} {ts : Array TypeId} (ho : o.op = .call ⟨.invoke x name, args, ts⟩) {t : TypeId} {y r : Value} {w : World} (hx : ev x = .iface t y) (hm : ∀ n, (Go.method (n + 1) t y name).run P w = .ok (f, r) w) :
 (execOp ev o).run P w = .ok (.enter f (#[r] ++ args.map ev)) w := by
 obtain ⟨fn, h1, h2, h3⟩ := hf
 have h4 : fn.body.isNone = false := by cases hb : fn.body <;> simp_all
 have hm' : (Go.method (P.types.size + 100) t y name).run P w = .ok (f, r) w := hm (P.types.size + 99)
 have e0 : (#[Value.iface t y] ++ args.map ev)[0]? = some (.iface t y) := by rw [Array.getElem?_append_left (by simp)]; rfl
 have e1 : (#[Value.iface t y] ++ args.map ev).extract 1 = args.map ev := by
  apply Array.ext'
  rw [Array.toList_extract, Array.toList_append]
  simp [List.extract, List.take_of_length_le]
 simp only [execOp, ho, resolve, Sem.run_bind, Sem.run_pure, Result.andThen_ok, invoke, hx, e0, callMethod, run_program, Made.depth, hm', e1]
 simp only [Result.andThen_ok, callFunc, Sem.run_bind, run_program, h1, h3, Bool.false_eq_true, if_false, h4, Sem.run_pure]
theorem strips_rel {U : Nat → Prop} : ∀ {xs : List Operand} {g : Operand → AV} {ev : Operand → Value}, stripsT (xs.map g) → (∀ x ∈ xs, RelA U w F β (g x) (ev x)) → ∀ x ∈ xs, RelA U w F β (strip (g x)) (ev x)
 | y :: r, g, ev, h, G, x, hx => by
  have hy : RelA U w F β (strip (g y)) (ev y) ∧ stripsT (r.map g) := by
   simp only [List.map_cons] at h
   have hG := G y (by simp)
   cases hgy : g y with
   | opt u z =>
    rw [hgy] at h hG
    simp only [stripsT] at h
    simp only [RelA] at hG
    exact ⟨hG.1 h.1, h.2⟩
   | _ => rw [hgy] at h hG; simp only [stripsT] at h; exact ⟨hG, h⟩
  rcases List.mem_cons.1 hx with rfl | hx
  ·exact hy.1
  ·exact strips_rel hy.2 (fun z hz => G z (by simp [hz])) x hx
 | [], _, _, _, _, x, hx => by simp at hx
theorem relOpt {U : Nat → Prop} {c : Bool} {x : AV} {v : Value} (hc : c = true) (h : RelA U w F β x v) : RelA U w F β (.opt c x) v := by
 simp only [RelA]; exact ⟨fun _ => h, fun h' => by rw [hc] at h'; simp at h'⟩
theorem StepTo.opt {W : World} {N U F : Nat → Prop} {β : Nat → Option Bind} {h : Nat → Chunk} {w w' : World} {m : Nat} {e : Eff} {v : Value} {c : Bool} (hc : c = true) (S : StepTo W N U F β h w m e v w') : StepTo W N U F β h w m ⟨.opt c e.val, e.ups, e.fresh⟩ v w' := by
 obtain ⟨F', β', h1, h2, h3, h4⟩ := S
 exact ⟨F', β', h1, h2, relOpt hc h3, h4⟩
end
section
variable {P : Program} {W : World} {N U F : Nat → Prop} {β : Nat → Option Bind} {h hT : Nat → Chunk} {w : World} {a : Act} {m : Nat}
theorem CallOk.run (M : MemOk W N U F β h w) (hs : ∀ id, hT id ≠ .dead → hT id = h id) {f : FuncId} {args : List AV} {e : Eff} (hc : CallOk P f args hT m e) (hm : ∀ i, m ≤ i → i < m + e.fresh → ¬ U i) {vs : List Value} (hv : RelL U w F β args vs) : Enters P f ∧ Calls P f vs.toArray w fun en w' => ∃ v, en = .returned v ∧ StepTo W N U F β h w m e v w' := by
 rcases hc with ⟨ids, args', hs1, r, hs', h1, h2, rfl, h4, h5, rfl⟩ | ⟨args', r, h1, h2, h3, rfl⟩
 ·exact ⟨h5.1, call_strict M hs h1 h2 h4 h5 hm hv⟩
 ·exact ⟨h3.1, call_lend M hs m h1 h2 h3 hv⟩
theorem call_wp (M : MemOk W N U F β h w) (hs : ∀ id, hT id ≠ .dead → hT id = h id) {o : Oper} {x : Operand} {args : Array Operand} {ts : Array TypeId} (ho : o.op = .call ⟨.value x, args, ts⟩) {f : FuncId} {p q zs : List AV} (hg : RelA U w F β (.clo (.func f) p q) (a.eval x)) (hz : RelL U w F β zs (args.toList.map a.eval)) {e : Eff}
 (hc : CallOk P f (p ++ zs ++ q) hT m e) (hm : ∀ i, m ≤ i → i < m + e.fresh → ¬ U i) {next : Act → World → Prop} {Q : Exit → Act → World → Prop} (hn : ∀ v w', StepTo W N U F β h w m e v w' → next (a.put o.dst v) w') : o.wp P a w next Q := by
 simp only [RelA] at hg
 obtain ⟨fs, cs, hx, h1, h2⟩ := hg
 have hr := h1.append hz |>.append h2
 obtain ⟨k1, k2⟩ := hc.run M hs hm hr
 unfold Oper.wp
 rw [Calls.exec k1 ho hx]
 simp only [Oper.upon]
 have e1 : (fs.toList ++ args.toList.map a.eval ++ cs.toList).toArray = fs ++ args.map a.eval ++ cs := by
  apply Array.ext'; simp
 rw [e1] at k2
 refine k2.mono ?_
 rintro en w' ⟨v, rfl, S⟩
 exact hn v w' S
theorem inv_wp (M : MemOk W N U F β h w) (hs : ∀ id, hT id ≠ .dead → hT id = h id) {o : Oper} {x : Operand} {name : String} {args : Array Operand} {ts : Array TypeId} (ho : o.op = .call ⟨.invoke x name, args, ts⟩) {rx z : AV} {φ : Prop} {f : FuncId} (hi : invA P hT rx name = some (φ, f, z)) (hφ : φ) {zs : List AV} (hg : RelA U w F β rx (a.eval x)) (hz : RelL U w F β zs (args.toList.map a.eval)) {e : Eff}
 (hc : CallOk P f (z :: zs) hT m e) (hm : ∀ i, m ≤ i → i < m + e.fresh → ¬ U i) {next : Act → World → Prop} {Q : Exit → Act → World → Prop} (hn : ∀ v w', StepTo W N U F β h w m e v w' → next (a.put o.dst v) w') : o.wp P a w next Q := by
 obtain ⟨t, y, r, hx, hmr, hr⟩ := inv_run M hs hi hφ hg
 have hrl : RelL U w F β (z :: zs) (r :: args.toList.map a.eval) := by simp only [RelL]; exact ⟨r, _, rfl, hr, hz⟩
 obtain ⟨k1, k2⟩ := hc.run M hs hm hrl
 unfold Oper.wp
 rw [Calls.execI k1 ho hx hmr]
 simp only [Oper.upon]
 have e1 : (r :: args.toList.map a.eval).toArray = #[r] ++ args.map a.eval := by
  apply Array.ext'; simp
 rw [e1] at k2
 refine k2.mono ?_
 rintro en w' ⟨v, rfl, S⟩
 exact hn v w' S
theorem opnd_inv (x : Operand) (name : String) (args : Array Operand) (ts : Array TypeId) (y : Operand) (hy : y = x ∨ y ∈ args.toList) : y ∈ (Op.operands (.call ⟨.invoke x name, args, ts⟩)).toList := by
 simp [Op.operands, Call.operands]
 rcases hy with rfl | hy
 ·exact .inl rfl
 ·exact .inr (by simpa using hy)
theorem ex2_wp (M : MemOk W N U F β h w) (hs : ∀ id, hT id ≠ .dead → hT id = h id) (hm0 : ¬ U m) {o : Oper} {g : Operand → AV} (G : ∀ x ∈ o.op.operands.toList, RelA U w F β (g x) (a.eval x)) {φ : Prop} {e : Eff} (he : ex3 P g hT m o.op = some (φ, e)) (hφ : φ) {next : Act → World → Prop} {Q : Exit → Act → World → Prop}
 (hn : ∀ v w', StepTo W N U F β h w m e v w' → next (a.put o.dst v) w') : o.wp P a w next Q := by
 obtain ⟨n, w', h1, h2, h3⟩ := ex3_run M hs hm0 G he hφ
 unfold Oper.wp
 rw [h1]
 cases n <;> simp only [isVal, Bool.false_eq_true] at h2
 ·exact hn _ _ h3
 ·exact hn _ _ h3
theorem opnd_call (x : Operand) (args : Array Operand) (ts : Array TypeId) (y : Operand) (hy : y = x ∨ y ∈ args.toList) : y ∈ (Op.operands (.call ⟨.value x, args, ts⟩)).toList := by
 simp [Op.operands, Call.operands]
 rcases hy with rfl | hy
 ·exact .inl rfl
 ·exact .inr (by simpa using hy)
theorem opX_run (M : MemOk W N U F β h w) (hs : ∀ id, hT id ≠ .dead → hT id = h id) (hm0 : ¬ U m) {o : Oper} {f : Nat → AV} (G : ∀ x ∈ o.op.operands.toList, RelA U w F β (getO f x) (a.eval x)) {K : Eff → Prop} (hm : ∀ e, K e → ∀ i, m ≤ i → i < m + e.fresh → ¬ U i) (hx : opX P (getO f) hT m K o.op) {next : Act → World → Prop} {Q : Exit → Act → World → Prop}
 (hn : ∀ e v w', K e → StepTo W N U F β h w m e v w' → next (a.put o.dst v) w') : o.wp P a w next Q := by
 unfold opX at hx
 split at hx
 ·rename_i x args ts ho
  rw [ho] at G
  split at hx
  ·rename_i fid p q hxx
   obtain ⟨e, h1, h2⟩ := hx
   exact call_wp M hs ho (by rw [← hxx]; exact G x (opnd_call _ _ _ _ (.inl rfl))) (map_rel args.toList fun y hy => G y (opnd_call _ _ _ _ (.inr hy))) h1 (hm e h2) fun v w' S => hn e v w' h2 S
  ·exact hx.elim
 ·rename_i x name args ts ho
  rw [ho] at G
  split at hx
  ·rename_i φ fid y hi
   obtain ⟨h0, e, h1, h2⟩ := hx
   exact inv_wp M hs ho hi h0 (G x (opnd_inv _ _ _ _ _ (.inl rfl))) (map_rel args.toList fun y hy => G y (opnd_inv _ _ _ _ _ (.inr hy))) h1 (hm e h2) fun v w' S => hn e v w' h2 S
  ·exact hx.elim
 ·split at hx
  ·rename_i φ e he
   exact ex2_wp M hs hm0 G he hx.1 fun v w' S => hn e v w' hx.2 S
  ·exact hx.elim
theorem opG_yes (M : MemOk W N U F β h w) (hs : ∀ id, hT id ≠ .dead → hT id = h id) (hm0 : ¬ U m) {o : Oper} {f : Nat → AV} (G : ∀ x ∈ o.op.operands.toList, RelA U w F β (getO f x) (a.eval x)) {c : Bool} (hc : c = true) {K : Eff → Prop} (hm : ∀ e, K e → ∀ i, m ≤ i → i < m + e.fresh → ¬ U i) (hx : opG P c (getO f) hT m K o.op) {next : Act → World → Prop} {Q : Exit → Act → World → Prop}
 (hn : ∀ e v w', K e → StepTo W N U F β h w m e v w' → next (a.put o.dst v) w') : o.wp P a w next Q := by
 unfold opG at hx
 split at hx
 ·rename_i x args ts ho
  rw [ho] at G
  split at hx
  ·rename_i fid p q hxx
   have both : stripsT ((Op.operands (.call ⟨.value x, args, ts⟩)).toList.map (getO f)) → RelA U w F β (.clo (.func fid) p q) (a.eval x) ∧ RelL U w F β (args.toList.map (fun x => strip (getO f x))) (args.toList.map a.eval) := by
    intro hst
    have G2 := strips_rel hst G
    exact ⟨by rw [← hxx]; exact G2 x (opnd_call _ _ _ _ (.inl rfl)), map_rel (g := fun x => strip (getO f x)) args.toList fun y hy => G2 y (opnd_call _ _ _ _ (.inr hy))⟩
   rcases hx with ⟨r, h1, h2⟩ | ⟨h1, h2⟩
   ·obtain ⟨h3, h4⟩ := h1 hc
    obtain ⟨g1, g2⟩ := both h3
    exact call_wp M hs ho g1 g2 h4 (fun i h1 h2 => by simp at h2; omega) fun v w' S => hn _ v w' h2 (S.opt hc)
   ·obtain ⟨h3, e, h4, h5⟩ := h1 hc
    obtain ⟨g1, g2⟩ := both h3
    exact call_wp M hs ho g1 g2 h4 (hm e h5) fun v w' S => hn e v w' h5 S
  ·exact absurd (hc.symm.trans hx.1) (by decide)
 ·rename_i x name args ts ho
  rw [ho] at G
  split at hx
  ·rename_i φ fid y hi
   have both : stripsT ((Op.operands (.call ⟨.invoke x name, args, ts⟩)).toList.map (getO f)) → RelA U w F β (strip (getO f x)) (a.eval x) ∧ RelL U w F β (args.toList.map (fun x => strip (getO f x))) (args.toList.map a.eval) := by
    intro hst
    have G2 := strips_rel hst G
    exact ⟨G2 x (opnd_inv _ _ _ _ _ (.inl rfl)), map_rel (g := fun x => strip (getO f x)) args.toList fun y hy => G2 y (opnd_inv _ _ _ _ _ (.inr hy))⟩
   rcases hx with ⟨r, h1, h2⟩ | ⟨h1, h2⟩
   ·obtain ⟨h3, h4⟩ := h1 hc
    obtain ⟨g1, g2⟩ := both h3.2
    exact inv_wp M hs ho hi h3.1 g1 g2 h4 (fun i h1 h2 => by simp at h2; omega) fun v w' S => hn _ v w' h2 (S.opt hc)
   ·obtain ⟨h3, e, h4, h5⟩ := h1 hc
    obtain ⟨g1, g2⟩ := both h3.2
    exact inv_wp M hs ho hi h3.1 g1 g2 h4 (hm e h5) fun v w' S => hn e v w' h5 S
  ·exact absurd (hc.symm.trans hx.1) (by decide)
 ·rename_i cn x y ho
  rw [ho] at G
  split at hx
  ·rename_i t hcn
   split at hx
   ·rename_i φ r hp
    obtain ⟨h1, h2⟩ := hx.1 hc
    have G2 := strips_rel (xs := [cn]) (by simpa using h1) (fun z hz => G z (by simp at hz; subst hz; simp [Op.operands])) cn (by simp)
    rw [hcn] at G2
    have hr := pick_run hp h2 (G x (by simp [Op.operands])) (G y (by simp [Op.operands]))
    unfold Oper.wp
    have he : (execOp a.eval o).run P w = .ok (.value (if t then a.eval x else a.eval y)) w := by
     simp [execOp, ho, relB.1 G2, asBool]
    rw [he]
    exact hn _ _ w hx.2 (step_pure M m (relOpt hc hr))
   ·exact absurd (hc.symm.trans hx.1) (by decide)
  ·exact absurd (hc.symm.trans hx.1) (by decide)
 ·split at hx
  ·rename_i φ x he
   obtain ⟨h1, h2⟩ := hx.1 hc
   exact ex2_wp M hs hm0 (g := fun x => strip (getO f x)) (strips_rel h1 G) he h2 fun v w' S => hn _ v w' hx.2 (S.opt hc)
  ·rename_i φ e _ he
   obtain ⟨h1, h2, h3⟩ := hx.1 hc
   exact ex2_wp M hs hm0 (g := fun x => strip (getO f x)) (strips_rel h1 G) he h2 fun v w' S => hn e v w' h3 S
  ·exact absurd (hc.symm.trans hx.1) (by decide)
theorem opG_no (M : MemOk W N U F β h w) {o : Oper} {f : Nat → AV} {c : Bool} (hc : c = false) {K : Eff → Prop} (hx : opG P c (getO f) hT m K o.op) {next : Act → World → Prop}
 (hn : ∀ e v w', K e → StepTo W N U F β h w m e v w' → next (a.put o.dst v) w') : next (a.put o.dst undef) w := by
 have fin : ∀ x, RelA U w F β x undef → K ⟨x, [], 0⟩ → next (a.put o.dst undef) w := fun x hx hk => hn _ _ w hk (step_pure M m hx)
 have fo : ∀ x, RelA U w F β (.opt c x) undef := by
  intro x; simp only [RelA]; exact ⟨fun h' => by rw [hc] at h'; simp at h', fun _ => trivial⟩
 unfold opG at hx
 split at hx
 ·split at hx
  ·rcases hx with ⟨r, h1, h2⟩ | ⟨h1, h2⟩
   ·exact fin _ (fo r) h2
   ·exact fin _ (by simp only [RelA]) (h2 hc)
  ·exact fin _ (by simp only [RelA]) hx.2
 ·split at hx
  ·rcases hx with ⟨r, h1, h2⟩ | ⟨h1, h2⟩
   ·exact fin _ (fo r) h2
   ·exact fin _ (by simp only [RelA]) (h2 hc)
  ·exact fin _ (by simp only [RelA]) hx.2
 ·split at hx
  ·split at hx
   ·exact fin _ (fo _) hx.2
   ·exact fin _ (by simp only [RelA]) hx.2
  ·exact fin _ (by simp only [RelA]) hx.2
 ·split at hx
  ·exact fin _ (fo _) hx.2
  ·exact fin _ (by simp only [RelA]) (hx.2 hc)
  ·exact fin _ (by simp only [RelA]) hx.2
def Looks (ops : Array Oper) (o : Oper) (U F : Nat → Prop) (β : Nat → Option Bind) (w : World) (f : Nat → AV) (a : Act) : Prop := ∀ t ∈ o.looksAt ops, RelA U w F β (f t) (a.tmps.getD t undef)
theorem opWF_run {ops : Array Oper} (M : MemOk W N U F β h w) (hs : ∀ id, hT id ≠ .dead → hT id = h id) (hm0 : ¬ U m) {o : Oper} {f : Nat → AV} (G : Looks ops o U F β w f a) {K : Eff → Prop} (hm : ∀ e, K e → ∀ i, m ≤ i → i < m + e.fresh → ¬ U i) (hx : opWF P ops o f hT m K) {next : Act → World → Prop} {Q : Exit → Act → World → Prop}
 (hn : ∀ e v w', K e → StepTo W N U F β h w m e v w' → next (a.put o.dst v) w') :
 if Region.wanted o (yielded ops a.tmps) then o.wp P a w next Q ∨ (o.asks P a w ∧ LetsOut Q) else next (a.put o.dst undef) w := by
 have G1 : ∀ x ∈ o.op.operands.toList, RelA U w F β (getO f x) (a.eval x) := by
  intro x hx
  cases x with
  | tmp t => exact G t (by unfold Oper.looksAt; exact List.mem_append_left _ (List.mem_filterMap.2 ⟨.tmp t, hx, rfl⟩))
  | const v => exact relOfV v
  | global g => exact relC.2 ⟨rfl, rfl⟩
  | func f => simp [getO, RelA, RelL, Act.eval]
 unfold opWF at hx
 split at hx
 ·rename_i hg
  rw [if_pos (by simp [Region.wanted, hg])]
  exact .inl (opX_run M hs hm0 G1 hm hx hn)
 ·rename_i j b hg
  split at hx
  ·exact hx.elim
  ·rename_i c hc
   have key : Region.wanted o (yielded ops a.tmps) = c := by
    have hy : ∀ (d : Tmp) (t : Bool), (ops[j]?).bind (·.dst) = some d → a.tmps.getD d undef = .bool t → yielded ops a.tmps j = some t := by
     intro d t h1 h2
     unfold yielded
     rw [h1]
     simp only [Option.bind_some]
     rw [Array.getD_eq_getD_getElem?] at h2
     cases h3 : a.tmps[d]? with
     | none => rw [h3] at h2; simp [undef] at h2
     | some v => rw [h3] at h2; simp only [Option.getD_some] at h2; subst h2; rfl
    have hn' : ∀ (d : Tmp), (ops[j]?).bind (·.dst) = some d → a.tmps.getD d undef = undef → yielded ops a.tmps j = none := by
     intro d h1 h2
     unfold yielded
     rw [h1]
     simp only [Option.bind_some]
     rw [Array.getD_eq_getD_getElem?] at h2
     cases h3 : a.tmps[d]? with
     | none => rfl
     | some v => rw [h3] at h2; simp only [Option.getD_some] at h2; subst h2; rfl
    unfold Region.wanted
    rw [hg]
    simp only
    cases hd' : (ops[j]?).bind (·.dst) with
    | none => rw [hd'] at hc; simp [dstV, gcond] at hc
    | some d =>
     rw [hd'] at hc
     simp only [dstV] at hc
     have hT := G d (by unfold Oper.looksAt; rw [hg]; simp only [hd']; exact List.mem_append_right _ (by simp))
     unfold gcond at hc
     split at hc
     ·rename_i t hl
      rw [hl] at hT
      rw [hy d t hd' (relB.1 hT)]
      simp only [Option.some.injEq] at hc
      subst hc
      cases b <;> cases t <;> rfl
     ·rename_i u t hl
      rw [hl] at hT
      simp only [RelA] at hT
      simp only [Option.some.injEq] at hc
      subst hc
      cases u with
      | true =>
       have := hT.1 rfl
       simp only [RelP] at this
       rw [hy d t hd' this.1]
       cases b <;> cases t <;> rfl
      | false =>
       rw [hn' d hd' (hT.2 rfl)]
       rfl
     ·simp at hc
   rw [key]
   cases hcc : c with
   | true => exact .inl (opG_yes M hs hm0 G1 hcc hm hx hn)
   | false =>
    simp only [Bool.false_eq_true, if_false]
    exact opG_no M hcc hx hn
end
section
variable {P : Program} {H : Hist} {s : St} {F : Nat → Prop} {β : Nat → Option Bind} {a : Act} {w : World}
theorem opW_run (C : Conc H s F β a w) {ops : Array Oper} {o : Oper} {K : St → Prop} (h : opW P H.nt ops o s K) {next : Act → World → Prop} {Q : Exit → Act → World → Prop} (hn : ∀ s' F' β' a' w', K s' → Conc H s' F' β' a' w' → next a' w') :
 if Region.wanted o (yielded ops a.tmps) then o.wp P a w next Q ∨ (o.asks P a w ∧ LetsOut Q) else next (a.put o.dst undef) w := by
 obtain ⟨hd, h⟩ := h
 split at h
 ·rename_i neg xs hc
  obtain ⟨hg, hk⟩ := h
  have key : ∀ (op : BinOp) (t yt : TypeId) (x : Operand) (e sz : Nat), o.op = .binOp op t x (.const (.slice none 0 0)) yt → (op = .eql ∧ neg = false ∨ op = .neq ∧ neg = true) → P.underlying t = some (.slice e) → slOf (lookC s.h) (getO (look s.t) x) = some (sz, xs) → o.wp P a w next Q := by
   intro op t yt x e sz ho hop ht hsl
   obtain ⟨ad, c, hv, _, _, hx⟩ := slOf_run C.m (fun _ _ => rfl) hsl (C.G x)
   have hr : (execOp a.eval o).run P w = .ok (.value (.bool (xorB neg ad.isNone))) w := by
    have hev : a.eval (.const (.slice none 0 0)) = .slice none 0 0 := rfl
    have he : ∀ l : Nat, (Op.equalIn 10000 t (.slice ad l c) (.slice none 0 0)).run P w = .ok ad.isNone w := by
     intro l
     show (Op.equalIn (9999 + 1) t (.slice ad l c) (.slice none 0 0)).run P w = _
     unfold Op.equalIn
     simp only [Sem.run_bind, run_underlying ht, Result.andThen_ok]
     cases ad <;> simp
    rcases hop with ⟨rfl, rfl⟩ | ⟨rfl, rfl⟩
    ·simp only [execOp, ho, hv, hev, eqGuard, binOp, Op.equal, Op.maxDepth, Sem.run_bind]
     simp [he, xorB]
    ·simp only [execOp, ho, hv, hev, eqGuard, binOp, Op.equal, Op.maxDepth, Sem.run_bind]
     simp [he, xorB]
   unfold Oper.wp
   rw [hr]
   have hb : ad.isNone = true → xs = [] := by
    intro hb
    rcases hx with hx | ⟨b, q, hx, _⟩
    ·exact hx
    ·rw [hx] at hb; simp at hb
   obtain ⟨F', β', C'⟩ := C.step (step_pure (x := B (xorB neg ad.isNone)) (v := .bool (xorB neg ad.isNone)) C.m s.n (relB.2 rfl)) hd
   exact hn _ F' β' _ w (hk ad.isNone hb) C'
  rw [if_pos (by simp [Region.wanted, hg])]
  unfold nilCmp at hc
  split at hc
  ·rename_i t x yt ho
   split at hc
   ·rename_i ht hsl
    obtain ⟨_, u, _, h2, h3, _⟩ := ty_kind ht
    have := kind_sl h3
    subst this
    simp only [Option.some.injEq, Prod.mk.injEq] at hc
    obtain ⟨rfl, rfl⟩ := hc
    exact .inl (key _ _ _ _ _ _ ho (.inl ⟨rfl, rfl⟩) h2 hsl)
   ·simp at hc
  ·rename_i t x yt ho
   split at hc
   ·rename_i ht hsl
    obtain ⟨_, u, _, h2, h3, _⟩ := ty_kind ht
    have := kind_sl h3
    subst this
    simp only [Option.some.injEq, Prod.mk.injEq] at hc
    obtain ⟨rfl, rfl⟩ := hc
    exact .inl (key _ _ _ _ _ _ ho (.inr ⟨rfl, rfl⟩) h2 hsl)
   ·simp at hc
  ·simp at hc
 ·exact opWF_run C.m (fun _ _ => rfl) (Nat.lt_irrefl s.n) (fun t _ => C.t t) (fun e _ i h1 _ => by omega) h fun e v w' hk S => by
   obtain ⟨F', β', C'⟩ := C.step S hd
   rw [opK_eq] at hk
   exact hn _ F' β' _ w' hk C'
theorem awpL_run {ops : Array Oper} {Q : Exit → St → Prop} : ∀ (l : List Oper) (s : St) (F : Nat → Prop) (β : Nat → Option Bind) (a : Act) (w : World), awpL P H.nt ops l (Q .normal) s → Conc H s F β a w → wpList P ops (Post H Q) l a w
 | [], ⟨t, h0, n⟩, F, β, a, w, h, C => ⟨⟨t, h0, n⟩, F, β, C, h⟩
 | o :: r, ⟨t, h0, n⟩, F, β, a, w, h, C => by
  simp only [awpL] at h
  exact opW_run C h fun s' F' β' a' w' hk C' => awpL_run r s' F' β' a' w' hk C'
theorem awp_run (hd : ∀ (ops : Array Oper) (Q : Exit → St → Prop) (s : St) (F : Nat → Prop) (β : Nat → Option Bind) (a : Act) (w : World) (id : Nat), DrawG P H.nt ops (Q .normal) s → Conc H s F β a w → (Code.region id ops true).wp P (Post H Q) a w) :
 ∀ (c : Code) (Q : Exit → St → Prop) (s : St) (F : Nat → Prop) (β : Nat → Option Bind) (a : Act) (w : World), awp P H.nt H.k c Q s → Conc H s F β a w → c.wp P (Post H Q) a w := by
 intro c
 induction c with
 | skip => intro Q s F β a w h C; cases s; exact wp_skip ⟨_, F, β, C, h⟩
 | region id ops draw =>
  intro Q s F β a w h C
  cases s
  cases draw with
  | false => exact wp_region_list (awpL_run ops.toList _ F β a w h C)
  | true => exact hd ops Q _ F β a w id h C
 | seq x y ihx ihy =>
  intro Q s F β a w h C
  obtain ⟨st, sh, sn⟩ := s
  simp only [awp] at h
  refine wp_seq (wp_mono (ihx _ _ F β a w h C) ?_)
  rintro e a' w' ⟨s', F', β', C', hq⟩
  cases e with
  | normal => exact ihy Q s' F' β' a' w' hq C'
  | _ => exact ⟨s', F', β', C', hq⟩
 | cond c x y ihx ihy =>
  intro Q s F β a w h C
  obtain ⟨st, sh, sn⟩ := s
  simp only [awp] at h
  have one : ∀ Q' : Exit → St → Prop, CondG (getO (look st) c) (awp P H.nt H.k x Q') (awp P H.nt H.k y Q') ⟨st, sh, sn⟩ → (Code.cond c x y).wp P (Post H Q') a w := by
   intro Q' h
   unfold CondG at h
   split at h
   ·rename_i b hb
    have hg := C.G c
    rw [hb] at hg
    exact wp_cond_split (relB.1 hg) (fun hb => ihx Q' _ F β a w (h.1 hb) C) fun hb => ihy Q' _ F β a w (h.2 hb) C
   ·exact h.elim
  rcases h with h | ⟨α, S, Pr, h1, h2⟩
  ·exact one Q h
  ·refine wp_mono (one _ h1) ?_
   rintro e a' w' ⟨s', F', β', C', hq⟩
   cases e with
   | normal =>
    obtain ⟨z, hz, hto⟩ := hq
    obtain ⟨F2, β2, C2⟩ := hto H F' β' a' w' rfl C'
    exact ⟨S z, F2, β2, C2, h2 z hz⟩
   | _ => exact ⟨s', F', β', C', hq⟩
 | block id c ih =>
  intro Q s F β a w h C
  obtain ⟨st, sh, sn⟩ := s
  simp only [awp] at h
  refine wp_block (wp_mono (ih _ _ F β a w h C) ?_)
  rintro e a' w' ⟨s', F', β', C', hq⟩
  cases e with
  | exit i =>
   simp only [Exit.inBlock]
   simp only [blkK] at hq
   by_cases hi : i = id
   ·rw [if_pos hi] at hq ⊢; exact ⟨s', F', β', C', hq⟩
   ·rw [if_neg hi] at hq ⊢; exact ⟨s', F', β', C', hq⟩
  | _ => exact ⟨s', F', β', C', hq⟩
 | loop c ih =>
  intro Q s F β a w h C
  obtain ⟨st, sh, sn⟩ := s
  simp only [awp] at h
  obtain ⟨α, S, Pr, μ, ⟨x0, hx0, hto⟩, hround⟩ := h
  obtain ⟨F0, β0, C0⟩ := hto H F β a w rfl C
  classical
  let Iv : Act → World → Nat → Prop := fun a w n => ∃ x F β, Pr x ∧ Conc H (S x) F β a w ∧ μ x = n
  refine wp_loop (fun a w => ∃ n, Iv a w n) (fun a w => if h : ∃ n, Iv a w n then Classical.choose (least h) else 0) ⟨_, x0, F0, β0, hx0, C0, rfl⟩ ?_
  intro a1 w1 hI
  obtain ⟨x, F1, β1, hx, C1, hμ⟩ := (Classical.choose_spec (least hI)).1
  refine wp_mono (ih _ (S x) F1 β1 a1 w1 (hround x hx) C1) ?_
  rintro e a' w' ⟨s', F', β', C', hq⟩
  cases e with
  | normal =>
   obtain ⟨y, hy, hlt, hto'⟩ := hq
   obtain ⟨F2, β2, C2⟩ := hto' H F' β' a' w' rfl C'
   have hI' : ∃ n, Iv a' w' n := ⟨_, y, F2, β2, hy, C2, rfl⟩
   refine ⟨hI', ?_⟩
   simp only [dif_pos hI', dif_pos hI]
   rw [← hμ]
   exact Nat.lt_of_le_of_lt ((Classical.choose_spec (least hI')).2 _ ⟨y, F2, β2, hy, C2, rfl⟩) hlt
  | _ => exact ⟨s', F', β', C', hq⟩
 | rangeFunc f ps x y _ _ => intro Q s F β a w h C; cases s; exact h H F β a w rfl rfl C
 | exit id => intro Q s F β a w h C; cases s; exact wp_exit ⟨_, F, β, C, h⟩
 | scope c ih =>
  intro Q s F β a w h C
  obtain ⟨st, sh, sn⟩ := s
  simp only [awp] at h
  refine wp_scope_straight (wp_mono (ih _ _ F β a w h C) ?_)
  rintro e a' w' ⟨s', F', β', C', hq⟩
  cases e with
  | goto l => exact hq.elim
  | _ => exact ⟨s', F', β', C', hq⟩
 | label l => intro Q s F β a w h C; cases s; exact wp_label ⟨_, F, β, C, h⟩
 | goto l => intro Q s F β a w h C; cases s; exact h.elim
 | ret => intro Q s F β a w h C; cases s; exact wp_ret ⟨_, F, β, C, h⟩
 | refuse why => intro Q s F β a w h C; cases s; exact h.elim
end
end Go.Proofs.YthiddmncjafklaaGreat
namespace Go.Proofs.YthiddmncjafklaaGreat
set_option linter.all false
open Go.RowKit
def CellsStay (w w' : World) : Prop := ∀ b o u, w.cell? ⟨b, o, none⟩ = some u → w'.cell? ⟨b, o, none⟩ = some u
mutual
theorem RelP.sh {w w' : World} {F : Nat → Prop} (K : CellsStay w w') : ∀ (p : PV) (u : Value), RelP w F p u → RelP w' F p u
 | .undef, _, h => by simp only [RelP] at h ⊢; exact h
 | .v _, _, h => by simp only [RelP] at h ⊢; exact h
 | .sl sz xs, u, h => by
  simp only [RelP] at h ⊢
  obtain ⟨a, c, rfl, h1, h2, h3⟩ := h
  refine ⟨a, c, rfl, h1, h2, ?_⟩
  rcases h3 with h3 | ⟨b, o, rfl, hb, he⟩
  ·exact .inl h3
  ·exact .inr ⟨b, o, rfl, hb, RelE.sh K sz o xs he⟩
theorem RelE.sh {w w' : World} {F : Nat → Prop} (K : CellsStay w w') {b : Nat} : ∀ (sz o : Nat) (xs : List (List PV)), RelE w F b sz o xs → RelE w' F b sz o xs
 | _, _, [], _ => by simp only [RelE]
 | sz, o, cs :: r, h => by
  simp only [RelE] at h ⊢
  exact ⟨h.1, RelC.sh K o cs h.2.1, RelE.sh K sz (o + sz) r h.2.2⟩
theorem RelC.sh {w w' : World} {F : Nat → Prop} (K : CellsStay w w') {b : Nat} : ∀ (o : Nat) (xs : List PV), RelC w F b o xs → RelC w' F b o xs
 | _, [], _ => by simp only [RelC]
 | o, x :: r, h => by
  simp only [RelC] at h ⊢
  obtain ⟨⟨u, hu, hx⟩, hr⟩ := h
  exact ⟨⟨u, K _ _ _ hu, RelP.sh K x u hx⟩, RelC.sh K (o + 1) r hr⟩
end
mutual
theorem RelA.sh {U F : Nat → Prop} {β : Nat → Option Bind} {w w' : World} (K : CellsStay w w') : ∀ (x : AV) (u : Value), RelA U w F β x u → RelA U w' F β x u
 | .undef, _, _ => by simp only [RelA]
 | .c p, u, h => by simp only [RelA] at h ⊢; exact RelP.sh K p u h
 | .agg xs, u, h => by
  simp only [RelA] at h ⊢
  obtain ⟨vs, rfl, h1, h2⟩ := h
  exact ⟨vs, rfl, RelL.sh K xs _ h1, h2⟩
 | .tup xs, u, h => by
  simp only [RelA] at h ⊢
  obtain ⟨vs, rfl, h1⟩ := h
  exact ⟨vs, rfl, RelL.sh K xs _ h1⟩
 | .own id, u, h => by simp only [RelA] at h ⊢; exact h
 | .view id o l, u, h => by simp only [RelA] at h ⊢; exact h
 | .ptr id i o, u, h => by simp only [RelA] at h ⊢; exact h
 | .fel sz xs i o, u, h => by
  simp only [RelA] at h ⊢
  obtain ⟨b, p, rfl, hb, he⟩ := h
  exact ⟨b, p, rfl, hb, RelE.sh K _ _ _ he⟩
 | .clo f x y, u, h => by
  simp only [RelA] at h ⊢
  obtain ⟨fs, cs, rfl, h1, h2⟩ := h
  exact ⟨fs, cs, rfl, RelL.sh K x _ h1, RelL.sh K y _ h2⟩
 | .ifc t x, u, h => by
  simp only [RelA] at h ⊢
  obtain ⟨y, rfl, h1⟩ := h
  exact ⟨y, rfl, RelA.sh K x y h1⟩
 | .map id, u, h => by simp only [RelA] at h ⊢; exact h
 | .opt t x, u, h => by simp only [RelA] at h ⊢; exact ⟨fun ht => RelA.sh K x u (h.1 ht), h.2⟩
theorem RelL.sh {U F : Nat → Prop} {β : Nat → Option Bind} {w w' : World} (K : CellsStay w w') : ∀ (xs : List AV) (us : List Value), RelL U w F β xs us → RelL U w' F β xs us
 | [], _, h => by simp only [RelL] at h ⊢; exact h
 | x :: r, us, h => by
  simp only [RelL] at h ⊢
  obtain ⟨u, us', rfl, h1, h2⟩ := h
  exact ⟨u, us', rfl, RelA.sh K x u h1, RelL.sh K r us' h2⟩
end
theorem ChOk.sh {U F : Nat → Prop} {β : Nat → Option Bind} {w w' : World} (K : CellsStay w w') {bd : Bind} (hb : ∀ g, bd.b = some g → w'.heap[g]? = w.heap[g]?) : ∀ {c : Chunk}, ChOk U w F β bd c → ChOk U w' F β bd c
 | .dead, _ => trivial
 | .row e sz xs, ⟨h1, h2, h3, h4⟩ => by
  refine ⟨h1, h2, h3, ?_⟩
  rcases h4 with h4 | ⟨g, cap, cur, h5, h6, h7, h8, h9, h10, h11⟩
  ·exact .inl h4
  ·exact .inr ⟨g, cap, cur, h5, h6, (hb g h5).trans h7, h8, h9, h10, RelE.sh K _ _ _ h11⟩
 | .blk t cs, ⟨h1, h2, g, vs, h3, h4, h5, h6, h7⟩ => ⟨h1, h2, g, vs, h3, h4, (hb g h3).trans h5, RelL.sh K _ _ h6, h7⟩
 | .mp agg n es, ⟨h0, g, h1, h2⟩ => ⟨h0, g, h1, (hb g h1).trans h2⟩
theorem MemOk.put {W : World} {N U F : Nat → Prop} {β : Nat → Option Bind} {h : Nat → Chunk} {w : World} (M : MemOk W N U F β h w) {D : Nat} {o : Obj} (hD : W.heap.size ≤ D) (hn : ∀ i bd, h i ≠ .dead → β i = some bd → bd.b ≠ some D) (hc : CellsStay w (w.putObj D o)) : MemOk W N U F β h (w.putObj D o) := by
 refine ⟨by simpa using M.size, M.os, M.tape, M.output, fun b hb hN => ?_, fun b hb => by simpa using M.fin b hb, M.used, fun id hd => ?_, M.dis, fun i bd b hb hbb => by simpa using M.off i bd b hb hbb⟩
 ·rw [World.putObj_heap_other (by omega)]; exact M.frame b hb hN
 ·obtain ⟨bd, hb, hk⟩ := M.ch id hd
  exact ⟨bd, hb, hk.sh hc fun g hg => World.putObj_heap_other fun e => hn id bd hd hb (by rw [hg, e])⟩
theorem stay_put {w : World} {D : Nat} {o o' : Obj} (h : w.heap[D]? = some o) (hc : o.isCells = false) : CellsStay w (w.putObj D o') := by
 intro b q u hu
 by_cases e : b = D
 ·subst e
  unfold World.cell? at hu
  simp only [h] at hu
  cases o <;> simp [Obj.isCells] at hc hu
 ·unfold World.cell? at hu ⊢
  rw [World.putObj_heap_other e]; exact hu
section
variable {P : Program} {H : Hist} {s : St} {F : Nat → Prop} {β : Nat → Option Bind} {a : Act} {w : World}
abbrev mkD (D : Nat) : Deferred := { target := .collected D, args := #[] }
theorem Conc.shut (C : Conc H s F β a w) {D : Nat} {Ds : List Nat} (hd : a.defers = (D :: Ds).map mkD) : ∃ w', (Instr.takeDeferred D).run P w = .ok [] w' ∧ Conc H s F β { a with defers := Ds.map mkD } w' := by
 obtain ⟨Ds', h1, h2, h3⟩ := C.d
 have hDs : Ds' = D :: Ds := by
  have e : (Ds'.map mkD) = (D :: Ds).map mkD := h1.symm.trans hd
  exact (List.map_inj_right (f := mkD) (fun x y hxy => by simpa [mkD] using hxy)).1 e
 subst hDs
 obtain ⟨k1, k2, k3⟩ := h3 D (by simp)
 have st := stay_put (o' := .deferred none) k3 rfl
 refine ⟨_, run_takeDeferred k3, ⟨fun t => RelA.sh st _ _ (C.t t), C.m.put k2 (fun i bd _ hb e => (C.m.off i bd D hb e).1 k1) st, C.nt, ⟨Ds, rfl, (List.nodup_cons.1 h2).2, fun E hE => ?_⟩, C.f, C.g, C.e, C.k⟩⟩
 obtain ⟨m1, m2, m3⟩ := h3 E (by simp [hE])
 refine ⟨m1, m2, ?_⟩
 have hne : E ≠ D := fun e => (List.nodup_cons.1 h2).1 (by rw [← e]; exact hE)
 rw [World.putObj_heap_other hne]; exact m3
theorem leaves_all {fn : Func} {R : Ending → World → Prop} {tm : Array Value} (hend : ∀ (a : Act) (w : World), a.tmps = tm → Conc H s F β a w → LeavesInM Fence.wide 0 P fn tm R [] .returning w) : ∀ (Ds : List Nat) (a : Act) (w : World), a.tmps = tm → a.defers = Ds.map mkD → Conc H s F β a w → LeavesInM Fence.wide 0 P fn tm R a.defers .returning w
 | [], a, w, ht, hd, C => by rw [hd]; exact hend a w ht C
 | D :: Ds, a, w, ht, hd, C => by
  obtain ⟨w', h1, C'⟩ := C.shut (P := P) hd
  have := leaves_all hend Ds { a with defers := Ds.map mkD } w' ht rfl C'
  rw [hd]
  exact ⟨by simp, .inl ⟨D, w', rfl, h1, this⟩⟩
theorem leaves_of {fn : Func} {R : Ending → World → Prop} (C : Conc H s F β a w) (hend : ∀ (a' : Act) (w' : World), a'.tmps = a.tmps → Conc H s F β a' w' → LeavesInM Fence.wide 0 P fn a.tmps R [] .returning w') : LeavesInM Fence.wide 0 P fn a.tmps R a.defers .returning w := by
 obtain ⟨Ds, h1, _⟩ := C.d
 exact leaves_all hend Ds a w rfl h1 C
end
end Go.Proofs.YthiddmncjafklaaGreat
namespace Go.Proofs.YthiddmncjafklaaGreat
set_option linter.all false
open Go.RowKit
def cvT (ids : List Nat) (h : Nat → Chunk) (f : Nat → AV) : List (Nat × AV) → Prop
 | [] => True
 | (t, x) :: r => Wk (cv ids h (f t)) x ∧ cvT ids h f r
def cvH (all : List Nat) (h : Nat → Chunk) : Nat → List Nat → List (Nat × Chunk) → Prop
 | _, [], [] => True
 | j, id :: r, (k, c) :: r' => k = j ∧ WkC (cvC all h (h id)) c ∧ cvH all h (j + 1) r r'
 | _, _, _ => False
def hsW (all : List Nat) (h : Nat → Chunk) : List Nat → List Chunk → Prop
 | [], [] => True
 | id :: r, c :: r' => WkC (cvC all h (h id)) c ∧ hsW all h r r'
 | _, _ => False
theorem hsW_at {all : List Nat} {h : Nat → Chunk} : ∀ {ids : List Nat} {hs : List Chunk}, hsW all h ids hs → ids.length = hs.length ∧ ∀ (j : Nat) (c : Chunk), hs[j]? = some c → ∃ id : Nat, ids[j]? = some id ∧ WkC (cvC all h (h id)) c
 | [], [], _ => ⟨rfl, fun j c h => by simp at h⟩
 | [], _ :: _, h => h.elim
 | _ :: _, [], h => h.elim
 | id :: r, c :: r', h => by
  obtain ⟨h1, h2⟩ := h
  obtain ⟨k1, k2⟩ := hsW_at h2
  refine ⟨by simp [k1], fun j d hd => ?_⟩
  cases j with
  | zero => simp at hd; subst hd; exact ⟨id, by simp, h1⟩
  | succ j => obtain ⟨x, e1, e2⟩ := k2 j d (by simpa using hd); exact ⟨x, by simpa using e1, e2⟩
theorem cvH_hs {all : List Nat} {h : Nat → Chunk} : ∀ {j : Nat} {ids : List Nat} {l : List (Nat × Chunk)}, cvH all h j ids l → hsW all h ids (l.map (·.2)) ∧ ∀ i, j ≤ i → lookC l i = nth (l.map (·.2)) (i - j)
 | _, [], [], _ => ⟨trivial, fun i _ => by simp [lookC, nth]⟩
 | _, [], _ :: _, h => h.elim
 | _, _ :: _, [], h => h.elim
 | j, id :: r, (k, c) :: r', h => by
  obtain ⟨rfl, h1, h2⟩ := h
  obtain ⟨k1, k2⟩ := cvH_hs h2
  refine ⟨⟨h1, k1⟩, fun i hi => ?_⟩
  simp only [lookC]
  by_cases e : k = i
  ·subst e; simp [nth]
  ·rw [if_neg e, k2 i (by omega)]
   unfold nth
   rw [show i - k = (i - (k + 1)) + 1 from by omega]
   simp
theorem cvT_at {ids : List Nat} {h : Nat → Chunk} {f : Nat → AV} : ∀ {l : List (Nat × AV)}, cvT ids h f l → ∀ t, Wk (cv ids h (f t)) (look l t)
 | [], _, t => by simp only [look]; exact Wk.undef _
 | (k, x) :: r, h, t => by
  simp only [look]
  by_cases e : k = t
  ·subst e; rw [if_pos rfl]; exact h.1
  ·rw [if_neg e]; exact cvT_at h.2 t
section
variable {P : Program} {W : World} {N U F : Nat → Prop} {β : Nat → Option Bind} {h hT : Nat → Chunk} {w : World}
theorem reshape_mem (M : MemOk W N U F β h w) {ids : List Nat} (hnd : ids.Nodup) {hs : List Chunk} (hh : hsW ids h ids hs) : MemOk W N (· < ids.length) (frzF ids h F β) (selB ids β) (nth hs) w := by
 have M1 := cv_mem (hT := h) M (fun _ _ => rfl) ids hnd
 obtain ⟨hl, hat⟩ := hsW_at hh
 refine ⟨M1.size, M1.os, M1.tape, M1.output, M1.frame, M1.fin, M1.used, fun j hj => ?_, M1.dis, M1.off⟩
 unfold nth at hj
 rw [List.getD_eq_getElem?_getD] at hj
 cases hc : hs[j]? with
 | none => rw [hc] at hj; simp at hj
 | some c =>
  rw [hc] at hj
  simp only [Option.getD_some] at hj
  obtain ⟨id, e1, e2⟩ := hat j c hc
  have hn : nth (ids.map fun id => cvC ids h (h id)) j = cvC ids h (h id) := by
   unfold nth; rw [List.getD_eq_getElem?_getD, List.getElem?_map, e1]; rfl
  have hne : nth (ids.map fun id => cvC ids h (h id)) j ≠ .dead := by
   rw [hn]
   intro he
   rw [he] at e2
   cases c with
   | dead => exact hj rfl
   | row _ _ _ => exact e2.elim
   | blk _ _ => exact e2.elim
   | mp _ _ _ => exact e2.elim
  obtain ⟨bd, hb, hk⟩ := M1.ch j hne
  refine ⟨bd, hb, ?_⟩
  rw [hn] at hk
  unfold nth
  rw [List.getD_eq_getElem?_getD, hc]
  exact e2.run hk
theorem frzF_g (M : MemOk W N U F β h w) {ids : List Nat} {b : Nat} (hb : frzF ids h F β b) : F b ∨ W.heap.size ≤ b ∨ N b := by
 rcases hb with hb | ⟨id, bd, _, _, h1, h2⟩
 ·exact .inl hb
 ·exact .inr (M.off id bd b h1 h2).2.2
end
theorem range_at {ids : List Nat} {k : Nat} (h : ids.take k = List.range k) {j : Nat} (hj : j < k) : ids[j]? = some j := by
 have : (ids.take k)[j]? = some j := by rw [h]; simp [hj]
 rwa [List.getElem?_take, if_pos hj] at this
theorem To.mk {k : Nat} {s s' : St} (ids : List Nat) (hk : ids.take k = List.range k) (hn : s'.n = ids.length) (hnd : ids.Nodup) (hh : cvH ids (lookC s.h) 0 ids s'.h) (ht : cvT ids (lookC s.h) (look s.t) s'.t) : ToK k s s' := by
 intro H F β a w hHk C
 obtain ⟨h1, h2⟩ := cvH_hs hh
 have M := reshape_mem C.m hnd h1
 refine ⟨frzF ids (lookC s.h) F β, selB ids β, ?_, ?_, C.nt, C.d.more fun _ hb => .inl hb, fun b hb => .inl (C.f b hb), fun b hb => ?_, fun i bd hi hb => ?_, ?_⟩
 ·intro t
  rw [hn]
  exact cvT_at ht t _ _ _ _ _ (cv_run C.m (fun _ _ => rfl) ids _ _ (C.t t))
 ·have e : lookC s'.h = nth (s'.h.map (·.2)) := by funext i; simpa using h2 i (Nat.zero_le _)
  rw [hn, e]; exact M
 ·rcases frzF_g C.m hb with h | h
  ·exact C.g b h
  ·exact .inr h
 ·rw [hHk] at hi
  have := range_at hk hi
  simp only [selB, this] at hb
  exact C.e i bd (by rw [hHk]; exact hi) hb
 ·rw [hn, hHk]
  have : (ids.take k).length = k := by rw [hk]; simp
  rw [List.length_take] at this
  omega
def resAV (P : Program) (f : Nat → AV) (h : Nat → Chunk) : List ResultVar → Option (Prop × List AV)
 | [] => some (True, [])
 | .tmp t :: r => match resAV P f h r with
  | some (φ, xs) => some (φ, f t :: xs)
  | none => none
 | .cell a t :: r => match loadAV P h t (f a), resAV P f h r with
  | some (ψ, x), some (φ, xs) => some (ψ ∧ φ, x :: xs)
  | _, _ => none
def oneV : List AV → AV
 | [x] => x
 | xs => .tup xs
def RetG0 (P : Program) (k : Nat) (rs : List ResultVar) (r : AV) (hs' : List Chunk) (s : St) : Prop :=
 ∃ ids : List Nat, ids.take k = List.range k ∧ ids.Nodup ∧ hsW ids (lookC s.h) ids hs' ∧ match resAV P (look s.t) (lookC s.h) rs with
  | some (φ, xs) => φ ∧ Wk (cv ids (lookC s.h) (oneV xs)) r
  | none => False
def RetG (P : Program) (k : Nat) (rs : List ResultVar) (r : AV) (hs' : List Chunk) (s : St) : Prop := ∃ s', ToK k s s' ∧ RetG0 P k rs r hs' s'
def RetQ (P : Program) (k : Nat) (rs : List ResultVar) (r : AV) (hs' : List Chunk) : Exit → St → Prop
 | .normal, s => RetG P k rs r hs' s
 | .ret, s => RetG P k rs r hs' s
 | _, _ => False
def argsT : Nat → List AV → List (Nat × AV)
 | _, [] => []
 | k, x :: r => (k, x) :: argsT (k + 1) r
def hsT : Nat → List Chunk → List (Nat × Chunk)
 | _, [] => []
 | k, c :: r => (k, c) :: hsT (k + 1) r
theorem look_argsT : ∀ (k : Nat) (xs : List AV) (t : Nat), look (argsT k xs) t = if k ≤ t then (xs[t - k]?).getD .undef else .undef
 | _, [], t => by simp [argsT, look]
 | k, x :: r, t => by
  simp only [argsT, look]
  by_cases h : k = t
  ·subst h; simp
  ·rw [if_neg h, look_argsT (k + 1) r t]
   by_cases h2 : k ≤ t
   ·rw [if_pos (by omega), if_pos h2, show t - k = (t - (k + 1)) + 1 from by omega, List.getElem?_cons_succ]
   ·rw [if_neg (by omega), if_neg h2]
theorem look_hsT : ∀ (k : Nat) (xs : List Chunk) (t : Nat), lookC (hsT k xs) t = if k ≤ t then nth xs (t - k) else .dead
 | _, [], t => by simp [hsT, lookC, nth]
 | k, x :: r, t => by
  simp only [hsT, lookC]
  by_cases h : k = t
  ·subst h; simp [nth]
  ·rw [if_neg h, look_hsT (k + 1) r t]
   by_cases h2 : k ≤ t
   ·rw [if_pos (by omega), if_pos h2]
    unfold nth
    rw [show t - k = (t - (k + 1)) + 1 from by omega]; simp
   ·rw [if_neg (by omega), if_neg h2]
def resOf (tmps : Array Value) : ResultVar → Sem Value
 | .tmp t => pure (tmps.getD t undef)
 | .cell a t => do loadVar t (← asAddr (tmps.getD a undef))
theorem results_eq (fn : Func) (tmps : Array Value) : results fn tmps = (do let vs ← fn.results.mapM (resOf tmps); pure (if h : vs.size = 1 then vs[0] else .tuple vs)) := rfl
theorem res_run {P : Program} {H : Hist} {s : St} {F : Nat → Prop} {β : Nat → Option Bind} {a : Act} {w : World} (C : Conc H s F β a w) : ∀ (rs : List ResultVar) (φ : Prop) (xs : List AV), resAV P (look s.t) (lookC s.h) rs = some (φ, xs) → φ →
 ∃ vs, (rs.mapM (resOf a.tmps)).run P w = .ok vs w ∧ RelL (· < s.n) w F β xs vs
 | [], φ, xs, h, _ => by
  simp only [resAV, Option.some.injEq, Prod.mk.injEq] at h
  obtain ⟨_, rfl⟩ := h
  exact ⟨[], by simp, by simp [RelL]⟩
 | .tmp t :: r, φ, xs, h, hφ => by
  unfold resAV at h
  split at h
  ·rename_i φ' ys hr
   simp only [Option.some.injEq, Prod.mk.injEq] at h
   obtain ⟨rfl, rfl⟩ := h
   obtain ⟨vs, h1, h2⟩ := res_run C r _ _ hr hφ
   refine ⟨a.tmps.getD t undef :: vs, ?_, by simp only [RelL]; exact ⟨_, _, rfl, C.t t, h2⟩⟩
   simp only [List.mapM_cons, resOf, Sem.run_bind, Sem.run_pure, Result.andThen_ok, h1]
  ·simp at h
 | .cell x t :: r, φ, xs, h, hφ => by
  unfold resAV at h
  split at h
  ·rename_i ψ y φ' ys hl hr
   simp only [Option.some.injEq, Prod.mk.injEq] at h
   obtain ⟨rfl, rfl⟩ := h
   obtain ⟨vs, h1, h2⟩ := res_run C r _ _ hr hφ.2
   obtain ⟨z, h3, h4⟩ := load_run C.m (fun _ _ => rfl) hl hφ.1 (C.t x)
   have hp : ∃ ad, a.tmps.getD x undef = .pointer (some ad) := by
    cases hv : a.tmps.getD x undef with
    | pointer ad =>
     cases ad with
     | some ad => exact ⟨ad, rfl⟩
     | none => rw [hv] at h3; simp [Instr.loadAt, Instr.sureAddr] at h3
    | _ => rw [hv] at h3; simp [Instr.loadAt, Instr.sureAddr] at h3
   obtain ⟨ad, hp⟩ := hp
   rw [hp] at h3
   simp only [Instr.loadAt, Instr.sureAddr, Sem.run_bind, Sem.run_pure, Result.andThen_ok] at h3
   refine ⟨z :: vs, ?_, by simp only [RelL]; exact ⟨_, _, rfl, h4, h2⟩⟩
   simp only [List.mapM_cons, resOf, Sem.run_bind, hp, asAddr, Sem.run_pure, Result.andThen_ok, h3, h1]
  ·simp at h
theorem spec_of {P : Program} {f : FuncId} {fn : Func} {c : Code} {args : List AV} {hs hs' : List Chunk} {r : AV} (hf : P.funcs[f]? = some fn) (hb : fn.body = some c) (hn : (fn.name == "runtime.NumGoroutine") = false)
 (hd : ∀ (H : Hist) (ops : Array Oper) (Q : Exit → St → Prop) (s : St) (F : Nat → Prop) (β : Nat → Option Bind) (a : Act) (w : World) (id : Nat), DrawG P H.nt ops (Q .normal) s → Conc H s F β a w → (Code.region id ops true).wp P (Post H Q) a w)
 (nt : Nat) (hnt : nt = args.length + (fn.ntmps - args.length)) (rs : List ResultVar) (hrs : fn.results = rs.toArray) (hle : hs.length ≤ hs'.length)
 (h : awp P nt hs.length c (RetQ P hs.length rs r hs') ⟨argsT 0 args, hsT 0 hs, hs.length⟩) : Spec P f args hs r hs' := by
 refine ⟨⟨fn, hf, by rw [hb]; rfl, hn⟩, hle, ?_⟩
 intro w F β vs M hv
 have hvl := hv.len
 refine callsIn_wide.1 (callsIn_of_wp_marks (n := 0) hf hb trivial (wpIn_wide.2 ?_))
 have C : Conc ⟨w, inB β, F, β, hs.length, nt⟩ ⟨argsT 0 args, hsT 0 hs, hs.length⟩ F β { tmps := vs.toArray ++ Array.replicate (fn.ntmps - vs.toArray.size) undef, defers := [] } w := by
  refine ⟨fun t => ?_, ?_, ?_, Dfr.nil _ _ _, fun b hb => hb, fun b hb => .inl hb, fun i bd _ hb => hb, Nat.le_refl _⟩
  ·rw [look_argsT]
   simp only [Nat.zero_le, if_true, Nat.sub_zero]
   cases hx : args[t]? with
   | none => simp only [Option.getD_none, RelA]
   | some x =>
    obtain ⟨u, hu, hr⟩ := hv.at t x hx
    have ht : t < vs.length := (List.getElem?_eq_some_iff.1 hu).1
    have e1 : (vs.toArray ++ Array.replicate (fn.ntmps - vs.toArray.size) undef).getD t undef = u := by
     rw [Array.getD_eq_getD_getElem?, Array.getElem?_append_left (by simpa using ht)]
     simp [hu]
    simp only [Option.getD_some]
    rw [e1]; exact hr
  ·have e : lookC (hsT 0 hs) = nth hs := by funext i; rw [look_hsT]; simp
   simp only [e]; exact M
  ·simp [hvl, hnt]
 refine wp_mono (awp_run (hd _) c _ _ F β _ w h C) ?_
 rintro e a' w' ⟨s', F', β', C', hq⟩
 have fin : RetG P hs.length rs r hs' s' → LeavesInM Fence.wide 0 P fn a'.tmps (fun e w_1 => ∃ v_1 F'_1 β'_1, e = .returned v_1 ∧ MemOk w (inB β) (· < hs'.length) F'_1 β'_1 (nth hs') w_1 ∧ RelA (· < hs'.length) w_1 F'_1 β'_1 r v_1 ∧ (∀ b, F b → F'_1 b) ∧ (∀ b, F'_1 b → F b ∨ w.heap.size ≤ b ∨ inB β b) ∧ ∀ i bd, i < hs.length → β'_1 i = some bd → β i = some bd) a'.defers .returning w' := by
  rintro ⟨s', hto, ids, h1, h2, h3, h4⟩
  obtain ⟨F', β', C'⟩ := hto _ F' β' a' w' rfl C'
  refine leaves_of C' ?_
  clear C' C
  intro a1 w1 ht1 C'
  rw [← ht1]
  generalize a1 = a' at *
  generalize w1 = w' at *
  split at h4
  ·rename_i φ xs hr
   obtain ⟨vs', h5, h6⟩ := res_run C' rs φ xs hr h4.1
   have M' := reshape_mem C'.m h2 h3
   obtain ⟨hl, _⟩ := hsW_at h3
   rw [hl] at M'
   have hone : ∃ v, (if h : vs'.toArray.size = 1 then vs'.toArray[0] else .tuple vs'.toArray) = v ∧ RelA (· < s'.n) w' F' β' (oneV xs) v := by
    have hxl := h6.len
    match xs, vs', h6, hxl with
    | [x], [u], h6, _ =>
     simp only [RelL] at h6
     obtain ⟨u', us, he, h7, _⟩ := h6
     simp only [List.cons.injEq] at he
     obtain ⟨rfl, _⟩ := he
     exact ⟨u, by simp, h7⟩
    | [], [], _, _ => exact ⟨.tuple #[], by simp, by simp only [oneV, RelA]; exact ⟨#[], rfl, by simp [RelL]⟩⟩
    | x :: y :: r, u :: v :: us, h6, _ =>
     refine ⟨.tuple (u :: v :: us).toArray, by simp, ?_⟩
     simp only [oneV, RelA]
     exact ⟨_, rfl, h6⟩
   obtain ⟨v, hv1, hv2⟩ := hone
   refine ⟨v, ?_, v, _, _, rfl, M', ?_, fun b hb => .inl (C'.f b hb), fun b hb => ?_, fun i bd hi hb => ?_⟩
   ·rw [results_eq, hrs, List.mapM_toArray]
    simp only [Sem.run_bind, Sem.run_map, h5, Result.andThen_ok, Sem.run_pure]
    rw [hv1]
   ·have := h4.2 _ _ _ _ _ (cv_run C'.m (fun _ _ => rfl) ids _ _ hv2)
    rw [hl] at this; exact this
   ·rcases frzF_g C'.m hb with h | h
    ·exact C'.g b h
    ·exact .inr h
   ·have := range_at h1 hi
    simp only [selB, this] at hb
    exact C'.e i bd hi hb
  ·exact h4.elim
 cases e with
 | normal => exact fin hq
 | ret => exact fin hq
 | _ => exact hq.elim
end Go.Proofs.YthiddmncjafklaaGreat
namespace Go.Proofs.YthiddmncjafklaaGreat
set_option linter.all false
open Go.RowKit
theorem mfind_shift (k : List Int) : ∀ (es : List (List Int × Int)) (i : Nat), mfind k (i + 1) es = (mfind k i es).map fun p => (p.1 + 1, p.2)
 | [], i => rfl
 | (k', v) :: r, i => by
  unfold mfind
  split
  ·rfl
  ·exact mfind_shift k r (i + 1)
theorem mget_nil (k : List Int) : mget k [] = 0 := rfl
theorem mhas_nil (k : List Int) : mhas k [] = false := rfl
theorem mget_cons (k k' : List Int) (v : Int) (r : List (List Int × Int)) : mget k ((k', v) :: r) = if k = k' then v else mget k r := by
 unfold mget
 rw [mfind]
 by_cases h : k = k'
 ·rw [if_pos h, if_pos h]
 ·rw [if_neg h, if_neg h, mfind_shift]; cases mfind k 0 r <;> rfl
theorem mhas_cons (k k' : List Int) (v : Int) (r : List (List Int × Int)) : mhas k ((k', v) :: r) = if k = k' then true else mhas k r := by
 unfold mhas
 rw [mfind]
 by_cases h : k = k'
 ·rw [if_pos h, if_pos h]; rfl
 ·rw [if_neg h, if_neg h, mfind_shift]; cases mfind k 0 r <;> rfl
def mputR (k : List Int) (v : Int) : List (List Int × Int) → List (List Int × Int)
 | [] => [(k, v)]
 | (k', v') :: r => if k = k' then (k', v) :: r else (k', v') :: mputR k v r
theorem mput_R (k : List Int) (v : Int) : ∀ es, mput k v es = mputR k v es
 | [] => rfl
 | (k', v') :: r => by
  have ih := mput_R k v r
  unfold mput mpos mopen at ih ⊢
  rw [mputR, mfind]
  by_cases h : k = k'
  ·rw [if_pos h, if_pos h]; simp [mset]
  ·rw [if_neg h, if_neg h, mfind_shift, ← ih]
   cases mfind k 0 r with
   | none => simp [mset]
   | some p => simp [mset]
theorem mput_def (k : List Int) (v : Int) (es : List (List Int × Int)) : mset (mpos k es) v (mopen k es) = mput k v es := rfl
theorem mget_put (k : List Int) (v : Int) (es : List (List Int × Int)) : mget k (mput k v es) = v := by
 rw [mput_R]
 induction es with
 | nil => rw [mputR, mget_cons, if_pos rfl]
 | cons e r ih =>
  obtain ⟨k', v'⟩ := e
  rw [mputR]
  split
  ·rename_i h; rw [mget_cons, if_pos h]
  ·rename_i h; rw [mget_cons, if_neg h, ih]
theorem mhas_put (k : List Int) (v : Int) (es : List (List Int × Int)) : mhas k (mput k v es) = true := by
 rw [mput_R]
 induction es with
 | nil => rw [mputR, mhas_cons, if_pos rfl]
 | cons e r ih =>
  obtain ⟨k', v'⟩ := e
  rw [mputR]
  split
  ·rename_i h; rw [mhas_cons, if_pos h]
  ·rename_i h; rw [mhas_cons, if_neg h, ih]
theorem mget_other {k k2 : List Int} (hk : k2 ≠ k) (v : Int) (es : List (List Int × Int)) : mget k2 (mput k v es) = mget k2 es := by
 rw [mput_R]
 induction es with
 | nil => rw [mputR, mget_cons, if_neg hk]
 | cons e r ih =>
  obtain ⟨k', v'⟩ := e
  rw [mputR]
  split
  ·rename_i h; rw [mget_cons, mget_cons, if_neg (h ▸ hk), if_neg (h ▸ hk)]
  ·rename_i h; rw [mget_cons, mget_cons, ih]
theorem mhas_other {k k2 : List Int} (hk : k2 ≠ k) (v : Int) (es : List (List Int × Int)) : mhas k2 (mput k v es) = mhas k2 es := by
 rw [mput_R]
 induction es with
 | nil => rw [mputR, mhas_cons, if_neg hk]
 | cons e r ih =>
  obtain ⟨k', v'⟩ := e
  rw [mputR]
  split
  ·rename_i h; rw [mhas_cons, mhas_cons, if_neg (h ▸ hk)]
  ·rename_i h; rw [mhas_cons, mhas_cons, ih]
theorem mpos_lt (k : List Int) (es : List (List Int × Int)) : mpos k es < (mopen k es).length := by
 unfold mpos mopen
 cases h : mfind k 0 es with
 | none => simp
 | some p =>
  obtain ⟨i, v⟩ := p
  have := mget_some h
  exact (List.getElem?_eq_some_iff.1 this).1
theorem mget_put_if (k k2 : List Int) (v : Int) (es : List (List Int × Int)) : mget k2 (mput k v es) = if k2 = k then v else mget k2 es := by
 by_cases h : k2 = k
 ·subst h; rw [if_pos rfl, mget_put]
 ·rw [if_neg h, mget_other h]
theorem mhas_put_if (k k2 : List Int) (v : Int) (es : List (List Int × Int)) : mhas k2 (mput k v es) = if k2 = k then true else mhas k2 es := by
 by_cases h : k2 = k
 ·subst h; rw [if_pos rfl, mhas_put]
 ·rw [if_neg h, mhas_other h]
end Go.Proofs.YthiddmncjafklaaGreat
namespace Go.Proofs.YthiddmncjafklaaGreat
set_option linter.all false
open Go.RowKit
section
variable {P : Program} {W : World} {N U F : Nat → Prop} {β : Nat → Option Bind} {h hT : Nat → Chunk} {w : World} {a : Act} {m : Nat}
theorem opX_cut {g : Operand → AV} {K : Eff → Prop} {op : Op} (hx : opX P g hT m K op) : ∃ e, opX P g hT m (· = e) op ∧ K e := by
 unfold opX at hx ⊢
 split at hx
 ·split at hx
  ·obtain ⟨e, h1, h2⟩ := hx
   exact ⟨e, ⟨e, h1, rfl⟩, h2⟩
  ·exact hx.elim
 ·split at hx
  ·obtain ⟨h0, e, h1, h2⟩ := hx
   exact ⟨e, ⟨h0, e, h1, rfl⟩, h2⟩
  ·exact hx.elim
 ·split at hx
  ·exact ⟨_, ⟨hx.1, rfl⟩, hx.2⟩
  ·exact hx.elim
theorem opG_cut {c : Bool} {g : Operand → AV} {K : Eff → Prop} {op : Op} (hx : opG P c g hT m K op) : ∃ e, opG P c g hT m (· = e) op ∧ K e := by
 unfold opG at hx ⊢
 split at hx
 ·split at hx
  ·rcases hx with ⟨r, h1, h2⟩ | ⟨h1, h2⟩
   ·exact ⟨_, .inl ⟨r, h1, rfl⟩, h2⟩
   ·cases c with
    | true =>
     obtain ⟨h3, e, h4, h5⟩ := h1 rfl
     exact ⟨e, .inr ⟨fun _ => ⟨h3, e, h4, rfl⟩, fun h => by simp at h⟩, h5⟩
    | false => exact ⟨_, .inr ⟨fun h => by simp at h, fun _ => rfl⟩, h2 rfl⟩
  ·exact ⟨_, ⟨hx.1, rfl⟩, hx.2⟩
 ·split at hx
  ·rcases hx with ⟨r, h1, h2⟩ | ⟨h1, h2⟩
   ·exact ⟨_, .inl ⟨r, h1, rfl⟩, h2⟩
   ·cases c with
    | true =>
     obtain ⟨h3, e, h4, h5⟩ := h1 rfl
     exact ⟨e, .inr ⟨fun _ => ⟨h3, e, h4, rfl⟩, fun h => by simp at h⟩, h5⟩
    | false => exact ⟨_, .inr ⟨fun h => by simp at h, fun _ => rfl⟩, h2 rfl⟩
  ·exact ⟨_, ⟨hx.1, rfl⟩, hx.2⟩
 ·split at hx
  ·split at hx
   ·exact ⟨_, ⟨hx.1, rfl⟩, hx.2⟩
   ·exact ⟨_, ⟨hx.1, rfl⟩, hx.2⟩
  ·exact ⟨_, ⟨hx.1, rfl⟩, hx.2⟩
 ·split at hx
  ·exact ⟨_, ⟨hx.1, rfl⟩, hx.2⟩
  ·cases c with
   | true => exact ⟨_, ⟨fun hc => ⟨(hx.1 hc).1, (hx.1 hc).2.1, rfl⟩, fun h => by simp at h⟩, (hx.1 rfl).2.2⟩
   | false => exact ⟨_, ⟨fun h => by simp at h, fun _ => rfl⟩, hx.2 rfl⟩
  ·exact ⟨_, ⟨hx.1, rfl⟩, hx.2⟩
theorem opWF_cut {ops : Array Oper} {o : Oper} {f : Nat → AV} {K : Eff → Prop} (hx : opWF P ops o f hT m K) : ∃ e, opWF P ops o f hT m (· = e) ∧ K e := by
 unfold opWF at hx ⊢
 split at hx
 ·exact opX_cut hx
 ·split at hx
  ·exact hx.elim
  ·exact opG_cut hx
end
def updT (f : Nat → AV) (d : Option Tmp) (v : AV) (t : Nat) : AV := if d = some t then v else f t
def tS (f : Nat → AV) (ds : List (Option Tmp)) (es : List Eff) (L : Nat → Bool) : Nat → Nat → AV
 | 0 => f
 | k + 1 => match L k, es[k]? with
  | true, some e => updT (tS f ds es L k) (ds.getD k none) e.val
  | _, _ => tS f ds es L k
def hS (h : Nat → Chunk) (es : List Eff) (L : Nat → Bool) : Nat → Nat → Chunk
 | 0 => h
 | k + 1 => match L k, es[k]? with
  | true, some e => upd (hS h es L k) e.ups
  | _, _ => hS h es L k
theorem upd_in {h : Nat → Chunk} : ∀ {ups : List (Nat × Chunk)} {i : Nat}, i ∉ ups.map (·.1) → upd h ups i = h i
 | [], _, _ => rfl
 | (k, c) :: r, i, hn => by
  simp only [List.map_cons, List.mem_cons, not_or] at hn
  simp only [upd]
  rw [if_neg (Ne.symm hn.1)]
  exact upd_in hn.2
theorem upd_same {h h' : Nat → Chunk} : ∀ {ups : List (Nat × Chunk)} {i : Nat}, i ∈ ups.map (·.1) → upd h ups i = upd h' ups i
 | [], _, hn => by simp at hn
 | (k, c) :: r, i, hn => by
  simp only [upd]
  by_cases e : k = i
  ·rw [if_pos e, if_pos e]
  ·rw [if_neg e, if_neg e]
   simp only [List.map_cons, List.mem_cons] at hn
   exact upd_same (hn.resolve_left (Ne.symm e))
section
variable {f : Nat → AV} {h : Nat → Chunk} {ds : List (Option Tmp)} {es : List Eff}
theorem tS_agree {L : Nat → Bool} {t i : Nat} (hlt : ∀ k, k < i → ds.getD k none = some t → L k = true) : ∀ n, i ≤ n → (∀ k, i ≤ k → k < n → ds.getD k none = some t → L k = false) → tS f ds es L n t = tS f ds es (fun _ => true) i t := by
 have lo : ∀ k, k ≤ i → tS f ds es L k t = tS f ds es (fun _ => true) k t := by
  intro k
  induction k with
  | zero => intro _; rfl
  | succ k ih =>
   intro hk
   have ih := ih (by omega)
   simp only [tS]
   cases hL : L k with
   | true =>
    cases he : es[k]? with
    | none => exact ih
    | some e => simp only [updT]; rw [ih]
   | false =>
    have hd : ds.getD k none ≠ some t := fun h => by have := hlt k (by omega) h; rw [hL] at this; simp at this
    cases he : es[k]? with
    | none => exact ih
    | some e => simp only [updT]; rw [if_neg hd]; exact ih
 intro n
 induction n with
 | zero => intro hi _; have : i = 0 := by omega
           subst this; rfl
 | succ n ih =>
  intro hi hgt
  by_cases e : i = n + 1
  ·subst e; exact lo _ (Nat.le_refl _)
  ·have ih := ih (by omega) (fun k h1 h2 => hgt k h1 (by omega))
   simp only [tS]
   cases hL : L n with
   | false => exact ih
   | true =>
    have hd : ds.getD n none ≠ some t := fun h => by have := hgt n (by omega) (by omega) h; rw [hL] at this; simp at this
    cases he : es[n]? with
    | none => exact ih
    | some e => simp only [updT]; rw [if_neg hd]; exact ih
theorem hS_agree {L : Nat → Bool} {t i : Nat} (hlt : ∀ k e, k < i → es[k]? = some e → t ∈ e.ups.map (·.1) → L k = true) : ∀ n, i ≤ n → (∀ k e, i ≤ k → k < n → es[k]? = some e → t ∈ e.ups.map (·.1) → L k = false) → hS h es L n t = hS h es (fun _ => true) i t := by
 have lo : ∀ k, k ≤ i → hS h es L k t = hS h es (fun _ => true) k t := by
  intro k
  induction k with
  | zero => intro _; rfl
  | succ k ih =>
   intro hk
   have ih := ih (by omega)
   simp only [hS]
   cases he : es[k]? with
   | none => cases hL : L k <;> exact ih
   | some e =>
    by_cases hd : t ∈ e.ups.map (·.1)
    ·rw [hlt k e (by omega) he hd]
     exact upd_same hd
    ·cases hL : L k with
     | true => simp only [upd_in hd]; exact ih
     | false => simp only [upd_in hd]; exact ih
 intro n
 induction n with
 | zero => intro hi _; have : i = 0 := by omega
           subst this; rfl
 | succ n ih =>
  intro hi hgt
  by_cases e : i = n + 1
  ·subst e; exact lo _ (Nat.le_refl _)
  ·have ih := ih (by omega) (fun k e h1 h2 => hgt k e h1 (by omega))
   simp only [hS]
   cases he : es[n]? with
   | none => cases hL : L n <;> exact ih
   | some e =>
    cases hL : L n with
    | false => exact ih
    | true =>
     have hd : t ∉ e.ups.map (·.1) := fun h => by have := hgt n e (by omega) (by omega) he h; rw [hL] at this; simp at this
     simp only [upd_in hd]; exact ih
def setL (L : Nat → Bool) (i : Nat) (k : Nat) : Bool := if k = i then true else L k
theorem tS_insert {L : Nat → Bool} {i : Nat} (hi : L i = false) {e : Eff} (he : es[i]? = some e) : ∀ n, i < n → (∀ k t, i < k → k < n → L k = true → ds.getD k none = some t → ds.getD i none ≠ some t) → tS f ds es (setL L i) n = updT (tS f ds es L n) (ds.getD i none) e.val := by
 have lo : ∀ k, k ≤ i → tS f ds es (setL L i) k = tS f ds es L k := by
  intro k
  induction k with
  | zero => intro _; rfl
  | succ k ih =>
   intro hk
   have e1 : setL L i k = L k := by unfold setL; rw [if_neg (by omega)]
   simp only [tS, e1, ih (by omega)]
 intro n
 induction n with
 | zero => intro h; omega
 | succ n ih =>
  intro hn hd
  by_cases e' : i = n
  ·subst e'
   have e1 : setL L i i = true := by unfold setL; rw [if_pos rfl]
   simp only [tS, e1, hi, he, lo i (Nat.le_refl _)]
  ·have ih := ih (by omega) (fun k t h1 h2 => hd k t h1 (by omega))
   have e1 : setL L i n = L n := by unfold setL; rw [if_neg (by omega)]
   simp only [tS, e1, ih]
   cases hL : L n with
   | false => rfl
   | true =>
    cases hen : es[n]? with
    | none => rfl
    | some e2 =>
     funext t
     simp only [updT]
     by_cases h1 : ds.getD n none = some t
     ·rw [if_pos h1, if_pos h1, if_neg (hd n t (by omega) (by omega) hL h1)]
     ·rw [if_neg h1, if_neg h1]
theorem hS_insert {L : Nat → Bool} {i : Nat} (hi : L i = false) {e : Eff} (he : es[i]? = some e) : ∀ n, i < n → (∀ k e2 t, i < k → k < n → L k = true → es[k]? = some e2 → t ∈ e2.ups.map (·.1) → t ∉ e.ups.map (·.1)) → hS h es (setL L i) n = upd (hS h es L n) e.ups := by
 have lo : ∀ k, k ≤ i → hS h es (setL L i) k = hS h es L k := by
  intro k
  induction k with
  | zero => intro _; rfl
  | succ k ih =>
   intro hk
   have e1 : setL L i k = L k := by unfold setL; rw [if_neg (by omega)]
   simp only [hS, e1, ih (by omega)]
 intro n
 induction n with
 | zero => intro h; omega
 | succ n ih =>
  intro hn hd
  by_cases e' : i = n
  ·subst e'
   have e1 : setL L i i = true := by unfold setL; rw [if_pos rfl]
   simp only [hS, e1, hi, he, lo i (Nat.le_refl _)]
  ·have ih := ih (by omega) (fun k e2 t h1 h2 => hd k e2 t h1 (by omega))
   have e1 : setL L i n = L n := by unfold setL; rw [if_neg (by omega)]
   simp only [hS, e1, ih]
   cases hL : L n with
   | false => rfl
   | true =>
    cases hen : es[n]? with
    | none => rfl
    | some e2 =>
     funext t
     show upd (upd (hS h es L n) e.ups) e2.ups t = upd (upd (hS h es L n) e2.ups) e.ups t
     by_cases h1 : t ∈ e2.ups.map (·.1)
     ·have h2 := hd n e2 t (by omega) (by omega) hL hen h1
      rw [upd_in (h := upd (hS h es L n) e2.ups) h2]
      exact upd_same h1
     ·rw [upd_in h1]
      by_cases h2 : t ∈ e.ups.map (·.1)
      ·exact upd_same h2
      ·rw [upd_in h2, upd_in h2, upd_in h1]
end
theorem hS_stay {h : Nat → Chunk} {es : List Eff} {L : Nat → Bool} {t i : Nat} : ∀ n, i ≤ n → (∀ k e, i ≤ k → k < n → es[k]? = some e → t ∈ e.ups.map (·.1) → L k = false) → hS h es L n t = hS h es L i t := by
 intro n
 induction n with
 | zero => intro hi _; have : i = 0 := by omega
           subst this; rfl
 | succ n ih =>
  intro hi hgt
  by_cases e : i = n + 1
  ·subst e; rfl
  ·have ih := ih (by omega) (fun k e h1 h2 => hgt k e h1 (by omega))
   simp only [hS]
   cases he : es[n]? with
   | none => cases hL : L n <;> exact ih
   | some e =>
    cases hL : L n with
    | false => exact ih
    | true =>
     have hd : t ∉ e.ups.map (·.1) := fun h => by have := hgt n e (by omega) (by omega) he h; rw [hL] at this; simp at this
     simp only [upd_in hd]; exact ih
theorem mget_zero (k l : List Int) : ∀ es : List (List Int × Int), mget k (es ++ [(l, 0)]) = mget k es
 | [] => by rw [List.nil_append, mget_cons, mget_nil]; split <;> rfl
 | (k', v) :: r => by rw [List.cons_append, mget_cons, mget_cons, mget_zero k l r]
theorem mget_open (k l : List Int) (es : List (List Int × Int)) : mget k (mopen l es) = mget k es := by
 unfold mopen
 split
 ·rfl
 ·exact mget_zero k l es
def OpenC (c c' : Chunk) : Prop := c' = c ∨ ∃ a n es l, c = .mp a n es ∧ c' = .mp a n (mopen l es)
theorem ex3_open {P : Program} {g : Operand → AV} {h h' : Nat → Chunk} {m : Nat} {t : TypeId} {x k : Operand} (H : ∀ i, OpenC (h i) (h' i)) : ex3 P g h' m (.lookup t x k false) = ex3 P g h m (.lookup t x k false) := by
 simp only [ex3, mapAV]
 cases ty P t with
 | none => rfl
 | some d =>
  obtain ⟨kd, _, _, _, _⟩ := d
  cases kd <;> try rfl
  cases g x <;> try rfl
  rename_i id
  rcases H id with e | ⟨a, n, es, l, e1, e2⟩
  ·simp only [e]
  ·simp only [e1, e2]
   cases kty P _ <;> cases keyA (g k) <;> try rfl
   rename_i p q
   obtain ⟨_, _⟩ := p
   obtain ⟨_, _⟩ := q
   simp only
   generalize (a == _ && a == _ && Nat.beq n _ && Nat.beq n _ && intTy P _) = b
   cases b <;> simp [mget_open]
theorem opWF_open {P : Program} {ops : Array Oper} {o : Oper} {f : Nat → AV} {h h' : Nat → Chunk} {m : Nat} {K : Eff → Prop} (ho : isLk o = true) (H : ∀ i, OpenC (h i) (h' i)) (hx : opWF P ops o f h m K) : opWF P ops o f h' m K := by
 unfold isLk at ho
 rw [Bool.and_eq_true] at ho
 obtain ⟨h1, h2⟩ := ho
 have hg : o.guard = none := by simpa using h1
 split at h2
 ·rename_i t x k hop
  unfold opWF at hx ⊢
  rw [hg] at hx ⊢
  simp only [opX, hop] at hx ⊢
  rw [ex3_open H]; exact hx
 ·simp at h2
theorem entry_ups {P : Program} {ops : Array Oper} {o : Oper} {f : Nat → AV} {h : Nat → Chunk} {m : Nat} {e : Eff} (ho : isEn o = true) (hx : opWF P ops o f h m (· = e)) : ∃ id a n es l, h id = .mp a n es ∧ e.ups = [(id, .mp a n (mopen l es))] := by
 unfold isEn at ho
 rw [Bool.and_eq_true] at ho
 obtain ⟨h1, h2⟩ := ho
 have hg : o.guard = none := by simpa using h1
 split at h2
 ·rename_i t x k hop
  unfold opWF at hx
  rw [hg] at hx
  simp only [opX, hop, ex3] at hx
  split at hx
  ·rename_i φ e' he
   obtain ⟨_, rfl⟩ := hx
   split at he
   ·rename_i id a n es l hm
    simp only [Option.some.injEq, Prod.mk.injEq] at he
    obtain ⟨_, rfl⟩ := he
    refine ⟨id, a, n, es, l, ?_, rfl⟩
    unfold mapAV at hm
    split at hm
    ·split at hm
     ·split at hm
      ·rename_i a' n' es' hid
       split at hm
       ·split at hm
        ·simp only [Option.some.injEq, Prod.mk.injEq] at hm
         obtain ⟨rfl, rfl, rfl, rfl, rfl⟩ := hm
         exact hid
        ·simp at hm
       ·simp at hm
      ·simp at hm
     ·simp at hm
    ·simp at hm
   ·simp at he
  ·exact hx.elim
 ·simp at h2
def Closed (ops : Array Oper) (E : Nat → Prop) : Prop := ∀ i o, ops[i]? = some o → E i → ∀ e ∈ o.after, Region.binds .any e = true → E e.on
theorem testBit_edge {ms : List Nat} : ∀ {es : List Edge} {j : Nat}, (edgeMask ms es).testBit j = true → ∃ e ∈ es, Region.binds .any e = true ∧ (j = e.on ∨ (ms.getD e.on 0).testBit j = true)
 | [], j, h => by simp [edgeMask] at h
 | e :: r, j, h => by
  simp only [edgeMask] at h
  split at h
  ·rename_i hb
   rw [Nat.testBit_or, Nat.testBit_or, Bool.or_eq_true, Bool.or_eq_true] at h
   rcases h with (h | h) | h
   ·refine ⟨e, by simp, hb, .inl ?_⟩
    rw [Nat.one_shiftLeft, Nat.testBit_two_pow] at h
    exact (of_decide_eq_true h).symm
   ·exact ⟨e, by simp, hb, .inr h⟩
   ·obtain ⟨e', h1, h2⟩ := testBit_edge h
    exact ⟨e', by simp [h1], h2⟩
  ·obtain ⟨e', h1, h2⟩ := testBit_edge h
   exact ⟨e', by simp [h1], h2⟩
theorem masks_spec {ops : Array Oper} {E : Nat → Prop} (hE : Closed ops E) : ∀ (l : List Oper) (ms : List Nat), ops.toList.drop ms.length = l → (∀ i j, (ms.getD i 0).testBit j = true → E i → E j) → ∀ i j, ((masks l ms).getD i 0).testBit j = true → E i → E j
 | [], ms, _, hm => by simpa only [masks] using hm
 | o :: r, ms, hd, hm => by
  simp only [masks]
  refine masks_spec hE r _ ?_ ?_
  ·simp only [List.length_append, List.length_singleton]
   rw [← List.drop_drop, hd]; rfl
  ·intro i j hb hi
   have ho : ops[ms.length]? = some o := by
    have : (ops.toList.drop ms.length)[0]? = some o := by rw [hd]; rfl
    rw [List.getElem?_drop] at this
    simpa using this
   rw [List.getD_eq_getElem?_getD] at hb
   by_cases h1 : i < ms.length
   ·rw [List.getElem?_append_left h1, ← List.getD_eq_getElem?_getD] at hb
    exact hm i j hb hi
   ·by_cases h2 : i = ms.length
    ·subst h2
     rw [List.getElem?_append_right (Nat.le_refl _)] at hb
     simp only [Nat.sub_self, List.getElem?_cons_zero, Option.getD_some] at hb
     obtain ⟨e, k1, k2, k3⟩ := testBit_edge hb
     have he := hE _ o ho hi e (by simpa using k1) k2
     rcases k3 with rfl | k3
     ·exact he
     ·exact hm _ _ k3 he
    ·rw [List.getElem?_eq_none (by simp; omega)] at hb
     simp at hb
theorem memN_iff : ∀ {l : List Nat} {i : Nat}, memN l i = true ↔ i ∈ l
 | [], i => by simp [memN]
 | a :: r, i => by
  simp only [memN]
  by_cases h : a = i
  ·simp [h]
  ·rw [if_neg h, memN_iff]; simp [Ne.symm h]
theorem disj_iff {a b : List Nat} (h : disj a b = true) : ∀ x ∈ a, x ∉ b := by
 intro x hx hb
 have := List.all_eq_true.1 h x hx
 rw [memN_iff.2 hb] at this
 simp at this
structure OpAt (P : Program) (nt : Nat) (ops : Array Oper) (n0 : Nat) (f : Nat → AV) (h : Nat → Chunk) (ds : List (Option Tmp)) (es : List Eff) (acc : List (List Nat × List Nat)) (i : Nat) : Prop where
 ok : ∃ o e, ops[i]? = some o ∧ es[i]? = some e ∧ dstOk nt o.dst ∧ ds.getD i none = o.dst ∧ e.fresh ≤ 4 ∧ (fp acc i).2 = e.ups.map (·.1) ∧
  opWF P ops o (tS f ds es (fun _ => true) i) (onlyC (fp acc i).1 (hS h es (fun _ => true) i)) (n0 + 4 * i) (· = e)
theorem look_put (d : Option Tmp) (x : AV) (t : List (Nat × AV)) : look (putO d x t) = updT (look t) d x := by
 funext i
 cases d with
 | none => simp [putO, updT]
 | some d => simp [putO, look, updT]
theorem tS_app {f : Nat → AV} {ds : List (Option Tmp)} {es : List Eff} {L : Nat → Bool} (e : Eff) : ∀ k, k ≤ es.length → tS f ds (es ++ [e]) L k = tS f ds es L k
 | 0, _ => rfl
 | k + 1, h => by
  have h1 : (es ++ [e])[k]? = es[k]? := List.getElem?_append_left (by omega)
  have ih := tS_app (f := f) (ds := ds) (es := es) (L := L) e k (by omega)
  simp only [tS, h1, ih]
theorem hS_app {f : Nat → Chunk} {es : List Eff} {L : Nat → Bool} (e : Eff) : ∀ k, k ≤ es.length → hS f (es ++ [e]) L k = hS f es L k
 | 0, _ => rfl
 | k + 1, h => by
  have h1 : (es ++ [e])[k]? = es[k]? := List.getElem?_append_left (by omega)
  have ih := hS_app (f := f) (es := es) (L := L) e k (by omega)
  simp only [hS, h1, ih]
theorem fp_app {acc : List (List Nat × List Nat)} (x : List Nat × List Nat) {k : Nat} (h : k < acc.length) : fp (acc ++ [x]) k = fp acc k := by
 unfold fp
 rw [List.getD_eq_getElem?_getD, List.getElem?_append_left h, ← List.getD_eq_getElem?_getD]
theorem drawL_out {P : Program} {nt : Nat} {ops : Array Oper} {n0 : Nat} {K : List (List Nat × List Nat) → St → Prop} {f : Nat → AV} {h : Nat → Chunk} : ∀ (l : List Oper) (i : Nat) (s : St) (acc : List (List Nat × List Nat)) (es : List Eff),
 ops.toList.drop i = l → i ≤ ops.size → es.length = i → acc.length = i → look s.t = tS f (ops.toList.map (·.dst)) es (fun _ => true) i → lookC s.h = hS h es (fun _ => true) i → (∀ k, k < i → OpAt P nt ops n0 f h (ops.toList.map (·.dst)) es acc k) →
 drawL P nt ops n0 i l acc K s → ∃ es' acc' s', es'.length = ops.size ∧ s'.n = s.n ∧ look s'.t = tS f (ops.toList.map (·.dst)) es' (fun _ => true) ops.size ∧ lookC s'.h = hS h es' (fun _ => true) ops.size ∧
  (∀ k, k < ops.size → OpAt P nt ops n0 f h (ops.toList.map (·.dst)) es' acc' k) ∧ K acc' s'
 | [], i, ⟨st, sh, sn⟩, acc, es, hl, hi, h1, h2, h3, h4, h5, hx => by
  have hsz : i = ops.size := by
   have := congrArg List.length hl
   simp at this; omega
  subst hsz
  exact ⟨es, acc, ⟨st, sh, sn⟩, h1, rfl, h3, h4, h5, hx⟩
 | o :: r, i, ⟨st, sh, sn⟩, acc, es, hl, hi, h1, h2, h3, h4, h5, hx => by
  have ho' : ops.toList[i]? = some o := by
   have : (ops.toList.drop i)[0]? = some o := by rw [hl]; rfl
   rw [List.getElem?_drop] at this
   simpa using this
  have ho : ops[i]? = some o := by simpa using ho'
  have hlt : i < ops.size := (Array.getElem?_eq_some_iff.1 ho).1
  simp only [drawL] at hx
  obtain ⟨hd, hx⟩ := hx
  obtain ⟨e, k1, k23⟩ := opWF_cut hx
  have k2 : e.fresh ≤ 4 := by cases e; exact k23.1
  have k3 : drawL P nt ops n0 (i + 1) r (acc ++ [(touch (look st) sh o, e.ups.map (·.1))]) K ⟨putO o.dst e.val st, e.ups ++ sh, sn⟩ := by cases e; exact k23.2
  have hdst : (ops.toList.map (·.dst)).getD i none = o.dst := by
   rw [List.getD_eq_getElem?_getD, List.getElem?_map, ho']; rfl
  have hei : (es ++ [e])[i]? = some e := by rw [List.getElem?_append_right (by omega), h1]; simp
  refine drawL_out r (i + 1) ⟨putO o.dst e.val st, e.ups ++ sh, sn⟩ _ (es ++ [e]) ?_ hlt ?_ ?_ ?_ ?_ ?_ k3
  ·rw [← List.drop_drop, hl]; rfl
  ·rw [List.length_append, h1]; rfl
  ·rw [List.length_append, h2]; rfl
  ·have e1 := tS_app (f := f) (ds := ops.toList.map (·.dst)) (es := es) (L := fun _ => true) e i (by omega)
   simp only [tS, hei, hdst, e1, ← h3]
   exact look_put _ _ _
  ·have e1 := hS_app (f := h) (es := es) (L := fun _ => true) e i (by omega)
   simp only [hS, hei, e1, ← h4]
   exact (upd_look _ _).symm
  ·intro k hk
   by_cases hki : k < i
   ·obtain ⟨o2, e2, q1, q2, q3, q4, q5, q6, q7⟩ := (h5 k hki).ok
    refine ⟨o2, e2, q1, by rw [List.getElem?_append_left (by omega)]; exact q2, q3, q4, q5, by rw [fp_app _ (by omega)]; exact q6, ?_⟩
    rw [fp_app _ (by omega), tS_app e k (by omega), hS_app e k (by omega)]
    exact q7
   ·obtain rfl : k = i := by omega
    have hfp : fp (acc ++ [(touch (look st) sh o, e.ups.map (·.1))]) k = (touch (look st) sh o, e.ups.map (·.1)) := by
     unfold fp
     rw [List.getD_eq_getElem?_getD, List.getElem?_append_right (by omega), h2]; simp
    refine ⟨o, e, ho, hei, hd, hdst, k2, by rw [hfp], ?_⟩
    rw [hfp, tS_app e k (by omega), hS_app e k (by omega), ← h3, ← h4]
    exact k1
theorem MemOk.weakU {W : World} {N U U' F : Nat → Prop} {β : Nat → Option Bind} {h : Nat → Chunk} {w : World} (M : MemOk W N U F β h w) (hU : ∀ i, U i → U' i) : MemOk W N U' F β h w := by
 refine ⟨M.size, M.os, M.tape, M.output, M.frame, M.fin, fun id bd hb => hU _ (M.used id bd hb), fun id hd => ?_, M.dis, M.off⟩
 obtain ⟨bd, hb, hc⟩ := M.ch id hd
 exact ⟨bd, hb, hc.mono (E := ⟨hU, fun b hb => ⟨hb, rfl⟩, fun _ _ _ h => h⟩) (fun g _ => rfl)⟩
theorem MemOk.drew {W : World} {N U F : Nat → Prop} {β : Nat → Option Bind} {h : Nat → Chunk} {w w' : World} (M : MemOk W N U F β h w) (hh : w'.heap = w.heap) (ho : w'.os = w.os) (ht : w'.tape = w.tape) (hp : w'.output = w.output) : MemOk W N U F β h w' := by
 have E : Ext U F β w U F β w' := ⟨fun _ h => h, fun b hb => ⟨hb, by rw [hh]⟩, fun _ _ _ h => h⟩
 refine ⟨by rw [hh]; exact M.size, ho.trans M.os, ht.trans M.tape, hp.trans M.output, fun b hb hn => by rw [hh]; exact M.frame b hb hn, fun b hb => by rw [hh]; exact M.fin b hb, M.used, fun id hd => ?_, M.dis, fun i bd b hb hbb => by rw [hh]; exact M.off i bd b hb hbb⟩
 obtain ⟨bd, hb, hc⟩ := M.ch id hd
 exact ⟨bd, hb, hc.mono E (fun g _ => by rw [hh])⟩
structure Mid (H : Hist) (n0 n : Nat) (f : Nat → AV) (h : Nat → Chunk) (ds : List (Option Tmp)) (es : List Eff) (L : Nat → Bool) (a : Act) (w : World) : Prop where
 ok : ∃ F β, MemOk H.W H.N (fun i => i < n0 ∨ ∃ k, k < n ∧ L k = true ∧ n0 + 4 * k ≤ i ∧ i < n0 + 4 * k + 4) F β (hS h es L n) w ∧
  (∀ t, RelA (fun i => i < n0 ∨ ∃ k, k < n ∧ L k = true ∧ n0 + 4 * k ≤ i ∧ i < n0 + 4 * k + 4) w F β (tS f ds es L n t) (a.tmps.getD t undef)) ∧
  (∀ b, H.F b → F b) ∧ (∀ b, F b → H.F b ∨ H.W.heap.size ≤ b ∨ H.N b) ∧ (∀ i bd, i < H.k → β i = some bd → H.β i = some bd) ∧ Dfr F H.W.heap.size a.defers w
 nt : a.tmps.size = H.nt
theorem tmps_put {U F : Nat → Prop} {β : Nat → Option Bind} {w : World} {a : Act} {f : Nat → AV} {nt : Nat} (ht : ∀ t, RelA U w F β (f t) (a.tmps.getD t undef)) (hnt : a.tmps.size = nt) {d : Option Tmp} (hd : dstOk nt d) {x : AV} {v : Value} (hx : RelA U w F β x v) (t : Nat) : RelA U w F β (updT f d x t) ((a.put d v).tmps.getD t undef) := by
 cases d with
 | none => simpa [updT, Act.put] using ht t
 | some d =>
  simp only [updT, Act.put, Option.some.injEq]
  by_cases h1 : d = t
  ·subst h1
   rw [if_pos rfl]
   have : d < a.tmps.size := by rw [hnt]; exact hd
   rw [Array.getD_eq_getD_getElem?, Array.getElem?_setIfInBounds_self, if_pos this]
   exact hx
  ·rw [if_neg h1, Array.getD_eq_getD_getElem?, Array.getElem?_setIfInBounds_ne h1, ← Array.getD_eq_getD_getElem?]
   exact ht t
theorem put_size (a : Act) (d : Option Tmp) (v : Value) : (a.put d v).tmps.size = a.tmps.size ∧ (a.put d v).defers = a.defers := by
 cases d <;> simp [Act.put]
theorem draw_any {P : Program} {H : Hist} {s : St} {F : Nat → Prop} {β : Nat → Option Bind} {a : Act} {w : World} {ops : Array Oper} {Q : Exit → St → Prop} (hx : DrawG P H.nt ops (Q .normal) s) (C : Conc H s F β a w) :
 wpAny P .any ops (Post H Q) ops.size (Array.replicate ops.size false) a { w with drawn := w.drawn + 1 } := by
 obtain ⟨es, acc, s', hel, hn, ht, hh, hat, hok, hK⟩ := drawL_out (f := look s.t) (h := lookC s.h) ops.toList 0 s [] [] (by simp) (Nat.zero_le _) rfl rfl rfl rfl (fun k hk => by omega) hx
 -- what the check has shown
 unfold drawOk at hok
 simp only [Bool.and_eq_true] at hok
 obtain ⟨hedge, hpair⟩ := hok
 have edge : ∀ k o, ops[k]? = some o → ∀ e ∈ o.after, Region.binds .any e = true → e.on < k := by
  intro k o ho e he hb
  have hk : k < ops.size := (Array.getElem?_eq_some_iff.1 ho).1
  have := List.all_eq_true.1 hedge k (by simpa using hk)
  rw [ho] at this
  have := List.all_eq_true.1 this e (by simpa using he)
  rw [hb] at this
  simpa using this
 have pair : ∀ i j, i < j → j < ops.size → pairOk ops (masks ops.toList []) acc i j = true := by
  intro i j hij hj
  have := List.all_eq_true.1 hpair j (by simpa using hj)
  exact List.all_eq_true.1 this i (by simpa using hij)
 let n := ops.size
 let ds := ops.toList.map (·.dst)
 -- the induction
 have key : ∀ (fuel : Nat) (listed : Array Bool) (a : Act) (w : World), listed.size = n → Closed ops (fun i => listed.getD i false = true) → ((List.range n).filter fun i => !listed.getD i false).length = fuel →
  Mid H s.n n (look s.t) (lookC s.h) ds es (fun i => listed.getD i false) a w → wpAny P .any ops (Post H Q) fuel listed a w := by
  intro fuel
  have allDone : ∀ (listed : Array Bool) (a : Act) (w : World), (∀ i, i < n → listed.getD i false = true) → Mid H s.n n (look s.t) (lookC s.h) ds es (fun i => listed.getD i false) a w → Post H Q .normal a w := by
   intro listed a w hall M
   obtain ⟨F, β, M1, M2, M3, M4, M5, M6⟩ := M.ok
   have e1 : ∀ t, tS (look s.t) ds es (fun i => listed.getD i false) n t = look s'.t t := by
    intro t
    rw [ht]
    exact tS_agree (fun k hk _ => hall k hk) n (Nat.le_refl _) (fun k h1 h2 => by omega)
   have e2 : hS (lookC s.h) es (fun i => listed.getD i false) n = lookC s'.h := by
    funext t
    rw [hh]
    exact hS_agree (fun k e hk _ _ => hall k hk) n (Nat.le_refl _) (fun k e h1 h2 => by omega)
   rw [e2] at M1
   have hU : ∀ i, (i < s.n ∨ ∃ k, k < n ∧ listed.getD k false = true ∧ s.n + 4 * k ≤ i ∧ i < s.n + 4 * k + 4) → i < s.n + 4 * ops.size := by
    rintro i (h | ⟨k, h1, _, h2, h3⟩)
    ·omega
    ·have : n = ops.size := rfl
     omega
   refine ⟨⟨s'.t, s'.h, s.n + 4 * ops.size⟩, F, β, ⟨fun t => ?_, M1.weakU hU, M.nt, M6, M3, M4, M5, Nat.le_trans C.k (Nat.le_add_right _ _)⟩, hK⟩
   have := M2 t
   rw [e1 t] at this
   exact RelA.mono ⟨hU, fun b hb => ⟨hb, rfl⟩, fun _ _ _ h => h⟩ _ _ this
  induction fuel with
  | zero =>
   intro listed a w hsz hcl hf M
   have hall : ∀ i, i < n → listed.getD i false = true := by
    intro i hi
    have := List.eq_nil_of_length_eq_zero hf
    rw [List.filter_eq_nil_iff] at this
    have := this i (by simpa using hi)
    simpa using this
   refine ⟨?_, allDone listed a w hall M⟩
   apply List.eq_nil_iff_forall_not_mem.2
   intro j hj
   obtain ⟨h1, o, ho, _⟩ := mem_ready.1 hj
   have hjn : j < n := (Array.getElem?_eq_some_iff.1 ho).1
   have := hall j hjn
   rw [Array.getD_eq_getD_getElem?] at this h1
   have hjs : j < listed.size := by omega
   rw [Array.getElem?_eq_getElem hjs] at this h1
   simp only [Option.getD_some] at this h1
   rw [this] at h1; simp at h1
  | succ fuel ih =>
   intro listed a w hsz hcl hf M
   have gd : ∀ i, i < n → listed.getD i true = listed.getD i false := by
    intro i hi
    have hjs : i < listed.size := by omega
    rw [Array.getD_eq_getD_getElem?, Array.getD_eq_getD_getElem?, Array.getElem?_eq_getElem hjs]; rfl
   refine ⟨fun hr => ?_, fun i hi => ?_⟩
   · -- nobody may come up: all are done
    refine allDone listed a w ?_ M
    intro i
    induction i using Nat.strongRecOn with
    | _ i ihi =>
     intro hi
     cases hLi : listed.getD i false with
     | true => rfl
     | false =>
      exfalso
      have ho : ops[i]? = some ops[i] := Array.getElem?_eq_getElem hi
      have hm : i ∈ Region.ready .any ops listed := mem_ready.2 ⟨by rw [gd i hi]; exact hLi, _, ho, fun e he hb => ihi e.on (edge i _ ho e he hb) (by have := edge i _ ho e he hb; omega)⟩
      rw [hr] at hm
      simp at hm
   · -- number i comes up
    obtain ⟨hun, oi, hoi, hpre⟩ := mem_ready.1 hi
    have hin : i < n := (Array.getElem?_eq_some_iff.1 hoi).1
    rw [gd i hin] at hun
    obtain ⟨F, β, M1, M2, M3, M4, M5, M6⟩ := M.ok
    obtain ⟨o, e, q1, q2, q3, q4, q5, q6, q7⟩ := (hat i hin).ok
    rw [hoi] at q1
    cases q1
    -- those that are ordered
    have hcl' : Closed ops (fun k => listed.getD k false = true ∨ k = i) := by
     intro k ok hk hE e' he' hb'
     rcases hE with hE | rfl
     ·exact .inl (hcl k ok hk hE e' he' hb')
     ·rw [hoi] at hk; cases hk
      exact .inl (hpre e' he' hb')
    have before : ∀ k, k < i → ((masks ops.toList []).getD i 0).testBit k = true → listed.getD k false = true := by
     intro k hk hb
     have := masks_spec hcl' ops.toList [] (by simp) (by intro i j h; simp at h) i k hb (.inr rfl)
     rcases this with h | h
     ·exact h
     ·omega
    have after : ∀ k, i < k → listed.getD k false = true → ((masks ops.toList []).getD k 0).testBit i = true → False := by
     intro k hk hL hb
     have := masks_spec hcl ops.toList [] (by simp) (by intro i j h; simp at h) k i hb hL
     rw [hun] at this; simp at this
    have apart_lt : ∀ k ok, k < i → ops[k]? = some ok → listed.getD k false = false → Oper.apart ops ok oi = true ∧ disj (fp acc k).2 ((fp acc i).1 ++ (fp acc i).2) = true := by
     intro k ok hk hok hL
     have := pair k i hk hin
     unfold pairOk at this
     rw [Bool.or_eq_true] at this
     rcases this with h | h
     ·have := before k hk h; rw [hL] at this; simp at this
     ·simp only [hok, hoi, Bool.and_eq_true] at h
      exact ⟨h.1.1, h.1.2⟩
    have apart_gt : ∀ k ok, i < k → k < n → ops[k]? = some ok → listed.getD k false = true → Oper.apart ops oi ok = true ∧ disj (fp acc i).2 ((fp acc k).1 ++ (fp acc k).2) = true ∧ (disj (fp acc i).1 (fp acc k).2 = true ∨ lkOk ops acc i k = true) := by
     intro k ok hk hkn hok hL
     have := pair i k hk hkn
     unfold pairOk at this
     rw [Bool.or_eq_true] at this
     rcases this with h | h
     ·exact (after k hk hL h).elim
     ·simp only [hok, hoi, Bool.and_eq_true, Bool.or_eq_true] at h
      exact ⟨h.1.1, h.1.2, h.2⟩
    have dsk : ∀ k t, ds.getD k none = some t → ∃ ok, ops[k]? = some ok ∧ ok.dst = some t ∧ k < n := by
     intro k t hk
     rw [List.getD_eq_getElem?_getD, List.getElem?_map] at hk
     cases ho : ops.toList[k]? with
     | none => rw [ho] at hk; simp at hk
     | some ok =>
      rw [ho] at hk
      have ho' : ops[k]? = some ok := by simpa using ho
      exact ⟨ok, ho', by simpa using hk, (Array.getElem?_eq_some_iff.1 ho').1⟩
    have fpk : ∀ k e2, k < n → es[k]? = some e2 → (fp acc k).2 = e2.ups.map (·.1) := by
     intro k e2 hk he2
     obtain ⟨_, e3, _, p2, _, _, _, p6, _⟩ := (hat k hk).ok
     rw [he2] at p2; cases p2; exact p6
    have opk : ∀ k, k < n → ∃ ok, ops[k]? = some ok := fun k hk => ⟨_, Array.getElem?_eq_getElem hk⟩
    -- the temporaries that it looks at
    have agT : ∀ t ∈ oi.looksAt ops, tS (look s.t) ds es (fun i => listed.getD i false) n t = tS (look s.t) ds es (fun _ => true) i t := by
     intro t htl
     refine tS_agree (fun k hk hd => ?_) n (Nat.le_of_lt hin) (fun k h1 h2 hd => ?_)
     ·obtain ⟨ok, hok, hdk, _⟩ := dsk k t hd
      cases hL : listed.getD k false with
      | true => rfl
      | false => exact ((Oper.apart_spec (apart_lt k ok hk hok hL).1).1 t hdk htl).elim
     ·obtain ⟨ok, hok, hdk, _⟩ := dsk k t hd
      by_cases hki : k = i
      ·subst hki; exact hun
      ·cases hL : listed.getD k false with
       | false => rfl
       | true => exact ((Oper.apart_spec (apart_gt k ok (by omega) h2 hok hL).1).2.2 t hdk htl).elim
    -- the memory that it looks at
    have agH : ∀ t ∈ (fp acc i).1, hS (lookC s.h) es (fun i => listed.getD i false) n t = hS (lookC s.h) es (fun _ => true) i t ∨ (isLk oi = true ∧ OpenC (hS (lookC s.h) es (fun _ => true) i t) (hS (lookC s.h) es (fun i => listed.getD i false) n t)) := by
     intro t htl
     by_cases hex : ∃ k e2, i < k ∧ k < n ∧ es[k]? = some e2 ∧ t ∈ e2.ups.map (·.1) ∧ listed.getD k false = true
     ·obtain ⟨k, e2, hik, hkn, he2, htk, hLk⟩ := hex
      have lk : ∀ k e2, i < k → k < n → es[k]? = some e2 → t ∈ e2.ups.map (·.1) → listed.getD k false = true → lkOk ops acc i k = true := by
       intro k e2 hik hkn he2 htk hLk
       obtain ⟨ok, hok⟩ := opk k hkn
       rcases (apart_gt k ok hik hkn hok hLk).2.2 with h | h
       ·exact (disj_iff h t htl (by rw [fpk k e2 hkn he2]; exact htk)).elim
       ·exact h
      have lkk := lk k e2 hik hkn he2 htk hLk
      obtain ⟨ok, hok⟩ := opk k hkn
      have mid : ∀ k m e3, lkOk ops acc i k = true → i < m → m < k → m < n → es[m]? = some e3 → t ∉ e3.ups.map (·.1) := by
       intro k m e3 hl h1 h2 h3 h4 h5
       unfold lkOk at hl
       rw [Bool.and_eq_true] at hl
       have := List.all_eq_true.1 hl.2 m (by simpa using h2)
       rw [Bool.or_eq_true] at this
       rcases this with h | h
       ·have := Nat.le_of_ble_eq_true h; omega
       ·exact disj_iff h t htl (by rw [fpk m e3 h3 h4]; exact h5)
      have uniq : ∀ k' e3, i < k' → k' < n → es[k']? = some e3 → t ∈ e3.ups.map (·.1) → listed.getD k' false = true → k' = k := by
       intro k' e3 h1 h2 h3 h4 h5
       rcases Nat.lt_trichotomy k' k with h | h | h
       ·exact (mid k k' e3 lkk h1 h h2 h3 h4).elim
       ·exact h
       ·exact (mid k' k e2 (lk k' e3 h1 h2 h3 h4 h5) hik h hkn he2 htk).elim
      unfold lkOk at lkk
      rw [Bool.and_eq_true, hoi, hok] at lkk
      simp only [Bool.and_eq_true] at lkk
      obtain ⟨⟨isl, isn⟩, _⟩ := lkk
      refine .inr ⟨isl, ?_⟩
      obtain ⟨ok', e3, p1, p2, _, _, _, p6, p7⟩ := (hat k hkn).ok
      rw [hok] at p1; cases p1
      rw [he2] at p2; cases p2
      obtain ⟨id, a', n', es', l, r1, r2⟩ := entry_ups isn p7
      have hti : t = id := by rw [r2] at htk; simpa using htk
      subst hti
      have r3 : hS (lookC s.h) es (fun _ => true) k t = .mp a' n' es' := by
       unfold onlyC at r1
       split at r1
       ·exact r1
       ·simp at r1
      have r4 : hS (lookC s.h) es (fun _ => true) k t = hS (lookC s.h) es (fun _ => true) i t := by
       refine hS_stay k (Nat.le_of_lt hik) (fun m e4 h1 h2 h3 h4 => ?_)
       exfalso
       by_cases hmi : m = i
       ·subst hmi
        have := disj_iff (apart_gt k ok hik hkn hok hLk).2.1 t (by rw [fpk m e4 hin h3]; exact h4)
        exact this (List.mem_append_right _ (by rw [p6]; exact htk))
       ·exact mid k m e4 (lk k e2 hik hkn he2 htk hLk) (by omega) h2 (by omega) h3 h4
      have r5 : hS (lookC s.h) es (fun i => listed.getD i false) n t = hS (lookC s.h) es (fun i => listed.getD i false) (k + 1) t := by
       refine hS_stay n hkn (fun m e4 h1 h2 h3 h4 => ?_)
       cases hLm : listed.getD m false with
       | false => rfl
       | true => have := uniq m e4 (by omega) h2 h3 h4 hLm; omega
      have r6 : hS (lookC s.h) es (fun i => listed.getD i false) (k + 1) t = .mp a' n' (mopen l es') := by
       simp only [hS, hLk, he2, r2, upd, if_true]
      exact .inr ⟨a', n', es', l, r4.symm.trans r3, r5.trans r6⟩
     ·refine .inl (hS_agree (fun k e2 hk he2 hd => ?_) n (Nat.le_of_lt hin) (fun k e2 h1 h2 he2 hd => ?_))
      ·obtain ⟨ok, hok⟩ := opk k (by omega)
       cases hL : listed.getD k false with
       | true => rfl
       | false =>
        have := disj_iff (apart_lt k ok hk hok hL).2 t (by rw [fpk k e2 (by omega) he2]; exact hd)
        exact (this (List.mem_append_left _ htl)).elim
      ·by_cases hki : k = i
       ·subst hki; exact hun
       ·cases hL : listed.getD k false with
        | false => rfl
        | true => exact (hex ⟨k, e2, by omega, h2, he2, hd, hL⟩).elim
    have q7' : opWF P ops oi (tS (look s.t) ds es (fun _ => true) i) (onlyC (fp acc i).1 (hS (lookC s.h) es (fun i => listed.getD i false) n)) (s.n + 4 * i) (· = e) := by
     cases isl : isLk oi with
     | true =>
      refine opWF_open isl (fun t => ?_) q7
      unfold onlyC
      cases hm : memN (fp acc i).1 t with
      | false => exact .inl rfl
      | true =>
       rcases agH t (memN_iff.1 hm) with h | h
       ·exact .inl h
       ·exact h.2
     | false =>
      have : onlyC (fp acc i).1 (hS (lookC s.h) es (fun i => listed.getD i false) n) = onlyC (fp acc i).1 (hS (lookC s.h) es (fun _ => true) i) := by
       funext t
       unfold onlyC
       cases hm : memN (fp acc i).1 t with
       | false => rfl
       | true =>
        rcases agH t (memN_iff.1 hm) with h | h
        ·exact h
        ·rw [isl] at h; simp at h
      rw [this]; exact q7
    have hsub : ∀ id, onlyC (fp acc i).1 (hS (lookC s.h) es (fun i => listed.getD i false) n) id ≠ .dead → onlyC (fp acc i).1 (hS (lookC s.h) es (fun i => listed.getD i false) n) id = hS (lookC s.h) es (fun i => listed.getD i false) n id := by
     intro id hne
     unfold onlyC at hne ⊢
     cases hm : memN (fp acc i).1 id with
     | false => rw [hm] at hne; exact (hne rfl).elim
     | true => rfl
    have hLset : (fun k => (listed.setIfInBounds i true).getD k false) = setL (fun k => listed.getD k false) i := by
     funext k
     unfold setL
     by_cases hki : k = i
     ·subst hki
      have : k < listed.size := by omega
      simp [this]
     ·rw [if_neg hki, getD_set_ne false (Ne.symm hki)]
    have hUnot : ∀ x, s.n + 4 * i ≤ x → x < s.n + 4 * i + 4 → ¬ (x < s.n ∨ ∃ k, k < n ∧ listed.getD k false = true ∧ s.n + 4 * k ≤ x ∧ x < s.n + 4 * k + 4) := by
     rintro x h1 h2 (h | ⟨k, h3, h4, h5, h6⟩)
     ·omega
     ·have : k = i := by omega
      subst this
      rw [hun] at h4; simp at h4
    have fin := opWF_run (a := a) (Q := Post H Q) (next := wpAny P .any ops (Post H Q) fuel (listed.setIfInBounds i true)) (hT := onlyC (fp acc i).1 (hS (lookC s.h) es (fun i => listed.getD i false) n)) M1 hsub (hUnot _ (Nat.le_refl _) (by omega)) (o := oi)
     (f := tS (look s.t) ds es (fun _ => true) i) (fun t htl => by rw [← agT t htl]; exact M2 t) (fun e' he' x h1 h2 => by subst he'; exact hUnot x h1 (by omega)) q7' (by
     rintro e' v w' rfl S
     refine ih _ _ _ (by simpa using hsz) ?_ ?_ ?_
     ·intro k ok hk hE e2 he2 hb2
      rw [congrFun hLset k] at hE
      show (fun k => (listed.setIfInBounds i true).getD k false) e2.on = true
      rw [hLset]
      unfold setL at hE ⊢
      by_cases h1 : e2.on = i
      ·rw [if_pos h1]
      ·rw [if_neg h1]
       by_cases hki : k = i
       ·subst hki
        rw [hoi] at hk; cases hk
        exact hpre e2 he2 hb2
       ·rw [if_neg hki] at hE
        exact hcl k ok hk hE e2 he2 hb2
     ·have cnt : ∀ (l : List Nat), l.Nodup → i ∈ l → (l.filter fun k => !listed.getD k false).length = (l.filter fun k => !(listed.setIfInBounds i true).getD k false).length + 1 := by
       intro l
       induction l with
       | nil => intro _ h; simp at h
       | cons x r ihr =>
        intro hnd hmem
        have hx := congrFun hLset x
        simp only [setL] at hx
        rw [List.nodup_cons] at hnd
        by_cases hxi : x = i
        ·subst hxi
         rw [if_pos rfl] at hx
         rw [List.filter_cons, List.filter_cons, hun, hx]
         simp only [Bool.not_false, Bool.not_true, if_true, Bool.false_eq_true, if_false, List.length_cons]
         congr 2
         apply List.filter_congr
         intro y hy
         have hyx : y ≠ x := fun h => hnd.1 (h ▸ hy)
         have := congrFun hLset y
         simp only [setL, if_neg hyx] at this
         rw [this]
        ·rw [if_neg hxi] at hx
         have := ihr hnd.2 ((List.mem_cons.1 hmem).resolve_left (Ne.symm hxi))
         rw [List.filter_cons, List.filter_cons, hx]
         split
         ·simp only [List.length_cons, this]
         ·exact this
      have := cnt (List.range n) List.nodup_range (by simpa using hin)
      omega
     ·obtain ⟨F', β', S1, S2, S3, S4⟩ := S
      have eT := tS_insert (f := look s.t) (ds := ds) (L := fun k => listed.getD k false) hun q2 n hin (fun k t h1 h2 h3 h4 => by
       obtain ⟨ok, hok, hdk, _⟩ := dsk k t h4
       rw [q4]
       intro h5
       exact (Oper.apart_spec (apart_gt k ok h1 h2 hok h3).1).2.1 t h5 hdk)
      have eH := hS_insert (h := lookC s.h) (L := fun k => listed.getD k false) hun q2 n hin (fun k e2 t h1 h2 h3 h4 h5 h6 => by
       obtain ⟨ok, hok⟩ := opk k h2
       have := disj_iff (apart_gt k ok h1 h2 hok h3).2.1 t (by rw [q6]; exact h6)
       exact this (List.mem_append_right _ (by rw [fpk k e2 h2 h4]; exact h5)))
      have hU' : ∀ x, ((x < s.n ∨ ∃ k, k < n ∧ listed.getD k false = true ∧ s.n + 4 * k ≤ x ∧ x < s.n + 4 * k + 4) ∨ (s.n + 4 * i ≤ x ∧ x < s.n + 4 * i + e'.fresh)) → (x < s.n ∨ ∃ k, k < n ∧ setL (fun k => listed.getD k false) i k = true ∧ s.n + 4 * k ≤ x ∧ x < s.n + 4 * k + 4) := by
       rintro x ((h | ⟨k, h1, h2, h3⟩) | ⟨h1, h2⟩)
       ·exact .inl h
       ·refine .inr ⟨k, h1, ?_, h3⟩
        unfold setL
        by_cases hki : k = i
        ·rw [if_pos hki]
        ·rw [if_neg hki]; exact h2
       ·exact .inr ⟨i, hin, by unfold setL; rw [if_pos rfl], h1, by omega⟩
      have hU'' : ∀ x, ((x < s.n ∨ ∃ k, k < n ∧ listed.getD k false = true ∧ s.n + 4 * k ≤ x ∧ x < s.n + 4 * k + 4) ∨ (s.n + 4 * i ≤ x ∧ x < s.n + 4 * i + e'.fresh)) → (x < s.n ∨ ∃ k, k < n ∧ (listed.setIfInBounds i true).getD k false = true ∧ s.n + 4 * k ≤ x ∧ x < s.n + 4 * k + 4) := by
       intro x hx
       rcases hU' x hx with h | ⟨k, h1, h2, h3⟩
       ·exact .inl h
       ·exact .inr ⟨k, h1, (congrFun hLset k).trans h2, h3⟩
      refine ⟨⟨F', β', ?_, fun t => ?_, fun b hb => (S2.f b (M3 b hb)).1, fun b hb => ?_, fun j bd hj hb => ?_, by rw [(put_size a oi.dst v).2]; exact M6.mono S2.f⟩, by rw [(put_size a oi.dst v).1]; exact M.nt⟩
      ·rw [hLset, eH]
       exact S1.weakU hU''
      ·rw [hLset, eT, q4]
       have := tmps_put (x := e'.val) (v := v) (fun t => RelA.mono S2 _ _ (M2 t)) M.nt q3 S3 t
       exact RelA.mono ⟨hU'', fun b hb => ⟨hb, rfl⟩, fun _ _ _ h => h⟩ _ _ this
      ·rcases S4 b hb with h | h
       ·exact M4 b h
       ·exact .inr h
      ·exact M5 j bd hj (S2.e j bd (.inl (Nat.lt_of_lt_of_le hj C.k)) hb))
    unfold wpOp
    rw [hoi]
    exact fin
 refine key ops.size _ a _ (by simp [n]) ?_ ?_ ?_
 ·intro i o _ hE
  exfalso
  rw [Array.getD_eq_getD_getElem?] at hE
  by_cases hi : i < ops.size
  ·simp [hi] at hE
  ·simp [hi] at hE
 ·have : (List.range n).filter (fun i => !(Array.replicate ops.size false).getD i false) = List.range n := by
   apply List.filter_eq_self.2
   intro i hi
   have hi' : i < ops.size := by simpa using hi
   simp [hi']
  rw [this]; simp [n]
 ·have hL : (fun i => (Array.replicate ops.size false).getD i false) = fun _ => false := by
   funext i
   rw [Array.getD_eq_getD_getElem?]
   by_cases hi : i < ops.size
   ·simp [hi]
   ·simp [hi]
  have t0 : ∀ k, tS (look s.t) ds es (fun _ => false) k = look s.t := by
   intro k
   induction k with
   | zero => rfl
   | succ k ih => simp only [tS]; exact ih
  have h0 : ∀ k, hS (lookC s.h) es (fun _ => false) k = lookC s.h := by
   intro k
   induction k with
   | zero => rfl
   | succ k ih => simp only [hS]; exact ih
  have hU0 : ∀ x, x < s.n → (x < s.n ∨ ∃ k, k < n ∧ (Array.replicate ops.size false).getD k false = true ∧ s.n + 4 * k ≤ x ∧ x < s.n + 4 * k + 4) := fun x hx => .inl hx
  refine ⟨⟨F, β, ?_, fun t => ?_, C.f, C.g, C.e, C.d.mono fun b hb => ⟨hb, rfl⟩⟩, C.nt⟩
  ·rw [hL, h0]
   exact (C.m.drew (w' := { w with drawn := w.drawn + 1 }) rfl rfl rfl rfl).weakU (fun x hx => .inl hx)
  ·rw [hL, t0]
   have E : Ext (· < s.n) F β w (fun i => i < s.n ∨ ∃ k, k < n ∧ (Array.replicate ops.size false).getD k false = true ∧ s.n + 4 * k ≤ i ∧ i < s.n + 4 * k + 4) F β { w with drawn := w.drawn + 1 } := ⟨fun x hx => .inl hx, fun b hb => ⟨hb, rfl⟩, fun _ _ _ h => h⟩
   exact RelA.mono E _ _ (C.t t)
theorem draw_run {P : Program} (hmix : P.follows .mixedOrders = true) {H : Hist} {s : St} {F : Nat → Prop} {β : Nat → Option Bind} {a : Act} {w : World} {ops : Array Oper} {Q : Exit → St → Prop} (id : Nat) (hx : DrawG P H.nt ops (Q .normal) s) (C : Conc H s F β a w) :
 (Code.region id ops true).wp P (Post H Q) a w := wp_region_any hmix (draw_any hx C)
end Go.Proofs.YthiddmncjafklaaGreat
namespace Go.Proofs.YthiddmncjafklaaGreat
set_option linter.all false
open Go.RowKit
theorem spec_am {P : Program} {f : FuncId} {fn : Func} {c : Code} {args : List AV} {hs hs' : List Chunk} {r : AV} (hf : P.funcs[f]? = some fn) (hb : fn.body = some c) (hn : (fn.name == "runtime.NumGoroutine") = false) (hmix : P.follows .mixedOrders = true)
 (nt : Nat) (hnt : nt = args.length + (fn.ntmps - args.length)) (rs : List ResultVar) (hrs : fn.results = rs.toArray) (hle : hs.length ≤ hs'.length)
 (h : awp P nt hs.length c (RetQ P hs.length rs r hs') ⟨argsT 0 args, hsT 0 hs, hs.length⟩) : Spec P f args hs r hs' :=
 spec_of hf hb hn (fun _ _ _ _ _ _ _ _ id hx C => draw_run hmix id hx C) nt hnt rs hrs hle h
section
variable {k : Nat} {b : Bool} {X Y : (Exit → St → Prop) → St → Prop} {Q : Exit → St → Prop} {s : St}
theorem cond_i (h1 : b = true → X Q s) (h2 : b = false → Y Q s) : CondJ k (.c (.v (.bool b))) X Y Q s := .inl ⟨h1, h2⟩
theorem cond_j {α : Type} (S : α → St) (Pr : α → Prop) (h1 : b = true → X (joinK k S Pr Q) s) (h2 : b = false → Y (joinK k S Pr Q) s) (h : ∀ x, Pr x → Q .normal (S x)) : CondJ k (.c (.v (.bool b))) X Y Q s := .inr ⟨α, S, Pr, ⟨h1, h2⟩, h⟩
end
def Tr : Prop := True
theorem trI : Tr := True.intro
theorem joinK_n {α : Type} {k : Nat} {S : α → St} {Pr : α → Prop} {Q : Exit → St → Prop} {s : St} : joinK k S Pr Q .normal s = ∃ y, Pr y ∧ ToK k s (S y) := rfl
theorem joinK_e {α : Type} {k : Nat} {S : α → St} {Pr : α → Prop} {Q : Exit → St → Prop} {s : St} {i : Nat} : joinK k S Pr Q (.exit i) s = Q (.exit i) s := rfl
theorem joinK_r {α : Type} {k : Nat} {S : α → St} {Pr : α → Prop} {Q : Exit → St → Prop} {s : St} : joinK k S Pr Q .ret s = Q .ret s := rfl
section
variable {P : Program} {f : FuncId} {args args' : List AV} {h : Nat → Chunk} {m : Nat} {K : Eff → Prop} {r : AV}
theorem callP (S : Spec P f args' [] r []) (hw : WkL (cvL [] noC args) args') (k : K ⟨up [] m r, [], 0⟩) : CallG P f args h m K :=
 ⟨_, .inl ⟨[], args', [], r, [], List.nodup_nil, hw, rfl, by simp, S, rfl⟩, k⟩
theorem callB (S : Spec P f args' [] r []) (hw : WkL (cvL [] h args) args') (hr : scal r = true) (k : K ⟨r, [], 0⟩) : CallG P f args h m K :=
 ⟨_, .inr ⟨args', r, hr, hw, S, rfl⟩, k⟩
theorem callM {hs hs' : List Chunk} (ids : List Nat) (S : Spec P f args' hs r hs') (hw : WkL (cvL ids noC args) args') (hh : hs = ids.map (fun id => cvC ids noC (h id))) (hnd : ids.Nodup) (hal : ∀ id ∈ ids, h id ≠ .dead) (k : K ⟨up ids m r, upsL ids m 0 hs', hs'.length - ids.length⟩) : CallG P f args h m K :=
 ⟨_, .inl ⟨ids, args', hs, r, hs', hnd, hw, hh, hal, S, rfl⟩, k⟩
variable {c : Bool} {φ : Prop}
theorem gcallP (S : c = true → Spec P f args' [] r []) (hw : WkL (cvL [] noC args) args') (hφ : c = true → φ) (k : K ⟨.opt c (up [] m r), [], 0⟩) : GCall P c f args φ h m K :=
 .inl ⟨_, fun hc => ⟨hφ hc, .inl ⟨[], args', [], r, [], List.nodup_nil, hw, rfl, by simp, S hc, rfl⟩⟩, k⟩
theorem gcallB (S : c = true → Spec P f args' [] r []) (hw : WkL (cvL [] h args) args') (hr : scal r = true) (hφ : c = true → φ) (k : K ⟨.opt c r, [], 0⟩) : GCall P c f args φ h m K :=
 .inl ⟨_, fun hc => ⟨hφ hc, .inr ⟨args', r, hr, hw, S hc, rfl⟩⟩, k⟩
end
def lpK {α : Type} (k : Nat) (S : α → St) (Pr : α → Prop) (μ : α → Nat) (x : α) (Q : Exit → St → Prop) : Exit → St → Prop := fun e s' => match e with
 | .normal => ∃ y, Pr y ∧ μ y < μ x ∧ ToK k s' (S y)
 | e => Q e s'
theorem loopI {k : Nat} {A : (Exit → St → Prop) → St → Prop} {Q : Exit → St → Prop} {s : St} {α : Type} (S : α → St) (Pr : α → Prop) (μ : α → Nat) (x : α) (hx : Pr x) (h0 : ToK k s (S x))
 (hr : ∀ x, Pr x → A (lpK k S Pr μ x Q) (S x)) : LoopG k A Q s := ⟨α, S, Pr, μ, ⟨x, hx, h0⟩, hr⟩
theorem lpK_n {α : Type} {k : Nat} {S : α → St} {Pr : α → Prop} {μ : α → Nat} {x : α} {Q : Exit → St → Prop} {s : St} : lpK k S Pr μ x Q .normal s = ∃ y, Pr y ∧ μ y < μ x ∧ ToK k s (S y) := rfl
theorem lpK_e {α : Type} {k : Nat} {S : α → St} {Pr : α → Prop} {μ : α → Nat} {x : α} {Q : Exit → St → Prop} {s : St} {i : Nat} : lpK k S Pr μ x Q (.exit i) s = Q (.exit i) s := rfl
theorem lpK_r {α : Type} {k : Nat} {S : α → St} {Pr : α → Prop} {μ : α → Nat} {x : α} {Q : Exit → St → Prop} {s : St} : lpK k S Pr μ x Q .ret s = Q .ret s := rfl
theorem ToK.trans {k : Nat} {s s' s'' : St} (h : ToK k s s') (h' : ToK k s' s'') : ToK k s s'' := by
 intro H F β a w hk C
 obtain ⟨F', β', C'⟩ := h H F β a w hk C
 exact h' H F' β' a w hk C'
theorem To.nil {k : Nat} {s : St} (t e sz : Nat) (ht : look s.t t = .c (.v (.slice none 0 0))) : ToK k s ⟨(t, .own s.n) :: s.t, (s.n, .row e sz []) :: s.h, s.n + 1⟩ := by
 intro H F β a w hk C
 have hb0 : ∀ bd, β s.n ≠ some bd := fun bd hb => absurd (C.m.used _ bd hb) (Nat.lt_irrefl _)
 obtain ⟨M, E⟩ := C.m.step (w' := w) (h' := lookC ((s.n, .row e sz []) :: s.h)) (β' := updB β s.n (some ⟨.slice none 0 0, none, 0, sz⟩)) (F' := F) (U' := (· < s.n + 1)) (fun i => i = s.n)
  (fun i hi => by simp [updB, Ne.symm hi]) (fun i hi => by simp [lookC, Ne.symm hi]) rfl rfl rfl (Nat.le_refl _) (fun _ _ _ => rfl) (fun i hi => Nat.lt_succ_of_lt hi) (fun b hb => hb)
  (fun b hb => ⟨C.m.fin b hb, .inl hb⟩) (fun i bd' hi hu => by subst hi; exact absurd hu (Nat.lt_irrefl _))
  (fun i bd' hi hb => by
   subst hi
   simp only [updB, if_true, Option.some.injEq] at hb
   subst hb
   exact ⟨Nat.lt_succ_self _, fun b hb => by simp at hb⟩)
  (fun i j _ _ _ hi hj _ _ _ _ => by rw [hi, hj])
  (fun E i hi _ => by
   subst hi
   refine ⟨⟨.slice none 0 0, none, 0, sz⟩, by simp [updB], ?_⟩
   simp only [lookC, if_true, ChOk]
   simp)
 refine ⟨F, updB β s.n (some ⟨.slice none 0 0, none, 0, sz⟩), fun t' => ?_, M, C.nt, C.d, C.f, C.g, fun i bd' hi hb => ?_, Nat.le_succ_of_le C.k⟩
 ·simp only [look]
  by_cases h : t = t'
  ·subst h
   rw [if_pos rfl]
   have h1 := C.t t
   rw [ht, relC] at h1
   simp only [RelA]
   rw [h1.1]
   refine ⟨Nat.lt_succ_self _, rfl, fun bd hb => ?_⟩
   simp only [updB, if_true, Option.some.injEq] at hb
   subst hb; rfl
  ·rw [if_neg h]; exact RelA.mono E _ _ (C.t t')
 ·refine C.e i bd' hi ?_
  have : s.n ≠ i := by have := C.k; omega
  simpa [updB, this] using hb
theorem ToK.refl (k : Nat) (s : St) : ToK k s s := fun _ F β _ _ _ C => ⟨F, β, C⟩
theorem ret0 {P : Program} {rs : List ResultVar} {r : AV} {s : St} {φ : Prop} {xs : List AV} (h : resAV P (look s.t) (lookC s.h) rs = some (φ, xs)) (hφ : φ) (hw : Wk (cv [] (lookC s.h) (oneV xs)) r) : RetG P 0 rs r [] s := by
 refine ⟨s, ToK.refl _ _, [], rfl, List.nodup_nil, trivial, ?_⟩
 rw [h]
 exact ⟨hφ, hw⟩
theorem retM {P : Program} {k : Nat} {rs : List ResultVar} {r : AV} {s : St} {hs' : List Chunk} {φ : Prop} {xs : List AV} (ids : List Nat) (h : resAV P (look s.t) (lookC s.h) rs = some (φ, xs)) (hk : ids.take k = List.range k) (hnd : ids.Nodup) (hh : hsW ids (lookC s.h) ids hs') (hφ : φ) (hw : Wk (cv ids (lookC s.h) (oneV xs)) r) : RetG P k rs r hs' s := by
 refine ⟨s, ToK.refl _ _, ids, hk, hnd, hh, ?_⟩
 rw [h]
 exact ⟨hφ, hw⟩
theorem retTo {P : Program} {k : Nat} {rs : List ResultVar} {r : AV} {s s' : St} {hs' : List Chunk} (hto : ToK k s s') (h : RetG P k rs r hs' s') : RetG P k rs r hs' s := by
 obtain ⟨s2, h2, h3⟩ := h
 exact ⟨s2, hto.trans h2, h3⟩
theorem cvL_append (ids : List Nat) (h : Nat → Chunk) : ∀ xs ys, cvL ids h (xs ++ ys) = cvL ids h xs ++ cvL ids h ys
 | [], ys => rfl
 | x :: r, ys => by simp [cvL, cvL_append ids h r ys]
theorem getD_map {α : Type} (f : α → List PV) (l : List α) (i : Nat) (h : i < l.length) : (l.map f).getD i [] = f l[i] := by simp [h]
theorem wk_self (x : AV) : Wk x x = True := eq_true (Wk.refl x)
theorem bsel_false (t p : Bool) : bsel t p false = (t && p) := by cases t <;> simp [bsel]
theorem bsel_true (t q : Bool) : bsel t true q = (t || q) := by cases t <;> simp [bsel]
theorem bool_imp (b : Bool) : (b = true → b = true) = True := by simp
theorem wrap_in (n : Int) (h1 : -9223372036854775808 ≤ n) (h2 : n ≤ 9223372036854775807) : IntKind.i64.wrap n = n := by rw [IntKind.wrap_i64]; omega
theorem look_n (i : Nat) : look [] i = .undef := rfl
theorem look_c (k i : Nat) (x : AV) (r : List (Nat × AV)) : look ((k, x) :: r) i = if k = i then x else look r i := rfl
theorem lookC_n (i : Nat) : lookC [] i = .dead := rfl
theorem lookC_c (k i : Nat) (x : Chunk) (r : List (Nat × Chunk)) : lookC ((k, x) :: r) i = if k = i then x else lookC r i := rfl
end Go.Proofs.YthiddmncjafklaaGreat
