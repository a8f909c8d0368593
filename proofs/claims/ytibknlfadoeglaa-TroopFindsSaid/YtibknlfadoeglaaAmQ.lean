/- The abstract machine, part Q: maps from numbers, or structs of numbers, to numbers. -/
import Derived.Test.YtibknlfadoeglaaAmP
import Derived.MapKept
namespace Go.Proofs.Ytibknlfadoeglaa
set_option linter.all false
open Go.RowKit
section
variable {P : Program} {W : World} {N U F : Nat → Prop} {β : Nat → Option Bind} {h hT : Nat → Chunk} {w : World}
/-- What a key's type is: one number, or a struct of n. -/
def KeyTy (P : Program) (kt : TypeId) (agg : Bool) (n : Nat) : Prop :=
  (agg = false ∧ n = 1 ∧ ∃ k, P.underlying kt = some (.int k)) ∨ (agg = true ∧ (∃ fs, P.underlying kt = some (.struct fs)) ∧ flatN P 9 kt = some (List.replicate n 0))
def intV (k : List Int) : List Value := k.map (.int .i64)
theorem eqVals_ints : ∀ (a b : List Int), a.length = b.length → eqVals (List.replicate a.length 0) (intV a) (intV b) = some (decide (a = b))
  | [], [], _ => by simp [eqVals, intV]
  | x :: a, y :: b, hl => by
    have hl' : a.length = b.length := by simpa using hl
    have := eqVals_ints a b hl'
    simp only [intV] at this
    simp only [intV, List.length_cons, List.replicate_succ, List.map_cons, eqVals, eqVal, if_true, this]
    rw [Option.some.injEq, Bool.eq_iff_iff]; simp
  | [], _ :: _, hl => by simp at hl
  | _ :: _, [], hl => by simp at hl
theorem key_mkV {kt : TypeId} {n : Nat} {fs : Array Field} (h : P.underlying kt = some (.struct fs)) (k : List Int) : keyV true k = mkV P kt (intV k) := by
  rw [mkV_struct h]; rfl
theorem sameBits_int (n : Nat) (k : IntKind) (a : Int) : Instr.sameBits n (.int k a) (.int k a) = true := by cases n <;> simp [Instr.sameBits]
theorem sameBits_key (n : Nat) (agg : Bool) (k : List Int) : Instr.sameBits (n + 1) (keyV agg k) (keyV agg k) = true := by
  cases agg with
  | false => exact sameBits_int _ _ _
  | true =>
    simp only [keyV, if_true, Instr.sameBits, Bool.and_eq_true, List.all_eq_true]
    refine ⟨by simp, fun p hp => ?_⟩
    have key : ∀ (l : List Int) (p : Value × Value), p ∈ (l.map (Value.int IntKind.i64)).zip (l.map (Value.int IntKind.i64)) → Instr.sameBits n p.1 p.2 = true := by
      intro l
      induction l with
      | nil => intro p hp; simp at hp
      | cons a r ih =>
        intro p hp
        simp only [List.map_cons, List.zip_cons_cons, List.mem_cons] at hp
        rcases hp with rfl | hp
        · exact sameBits_int _ _ _
        · exact ih p hp
    exact key k p (by simpa using hp)
theorem stays_run (agg : Bool) (k : List Int) (w : World) : (Instr.keyThatStays (keyV agg k) (keyV agg k)).run P w = .ok (keyV agg k) w := by
  simp [Instr.keyThatStays, sameBits_key]
theorem equal_key {kt : TypeId} {agg : Bool} {n : Nat} (T : KeyTy P kt agg n) {a b : List Int} (ha : a.length = n) (hb : b.length = n) (w : World) : (Op.equal kt (keyV agg a) (keyV agg b)).run P w = .ok (decide (a = b)) w := by
  rcases T with ⟨rfl, rfl, k, hu⟩ | ⟨rfl, ⟨fs, hu⟩, hf⟩
  · obtain ⟨x, rfl⟩ := List.length_eq_one_iff.1 ha
    obtain ⟨y, rfl⟩ := List.length_eq_one_iff.1 hb
    have hf : flatN P 9 kt = some [0] := by simp only [flatN, hu]
    have e1 : ∀ z : Int, keyV false [z] = mkV P kt (intV [z]) := fun z => by rw [mkV_scalar hu (by simp)]; rfl
    rw [e1, e1]
    exact eqFlat_run 9 10000 (by omega) kt _ hf _ _ _ w (eqVals_ints [x] [y] rfl)
  · rw [key_mkV (n := n) hu, key_mkV (n := n) hu]
    subst ha
    exact eqFlat_run 9 10000 (by omega) kt _ hf _ _ _ w (eqVals_ints a b hb.symm)
/-- Where a key stands, and what it leads to. -/
def mfind (k : List Int) : Nat → List (List Int × Int) → Option (Nat × Int)
  | _, [] => none
  | i, (k', v) :: r => if k = k' then some (i, v) else mfind k (i + 1) r
theorem asking_run {kt : TypeId} {agg : Bool} {n : Nat} (T : KeyTy P kt agg n) {k : List Int} (hk : k.length = n) (w : World) : ∀ (es : List (List Int × Int)) (i j : Nat), (∀ e ∈ es, e.1.length = n) →
    (Instr.findAsking kt (keyV agg k) (entsF agg j es) i).run P w = .ok ((mfind k i es).map fun p => (p.1, .int .i64 p.2)) w
  | [], _, _, _ => by simp [entsF, Instr.findAsking, mfind]
  | (k', v) :: r, i, j, he => by
    have h1 := equal_key T hk (he (k', v) (by simp)) w
    have h2 := asking_run T hk w r (i + 1) (j + 1) fun e h => he e (by simp [h])
    simp only [entsF, Instr.findAsking, mfind, Sem.run_bind, h1, Result.andThen_ok]
    by_cases e : k = k'
    · simp [e]
    · simp [e, h2]
theorem now_run {k : IntKind} {x : List Int} (hx : x.length = 1) : ∀ (es : List (List Int × Int)) (i j : Nat), (∀ e ∈ es, e.1.length = 1) →
    Instr.findNow (.int k) (keyV false x) (entsF false j es) i = some ((mfind x i es).map fun p => (p.1, .int .i64 p.2))
  | [], _, _, _ => by simp [entsF, Instr.findNow, mfind]
  | (k', v) :: r, i, j, he => by
    have h2 := now_run (k := k) hx r (i + 1) (j + 1) fun e h => he e (by simp [h])
    obtain ⟨a, rfl⟩ := List.length_eq_one_iff.1 hx
    obtain ⟨b, hb⟩ := List.length_eq_one_iff.1 (he (k', v) (by simp))
    simp only at hb
    subst hb
    simp only [entsF, Instr.findNow, mfind, keyV, Bool.false_eq_true, if_false, List.headD_cons, Instr.sameNow, if_true] at h2 ⊢
    by_cases e : a = b
    · simp [e]
    · rw [beq_eq_false_iff_ne.2 e]; simp [e, h2]
theorem find_run {kt : TypeId} {agg : Bool} {n : Nat} (T : KeyTy P kt agg n) {k : List Int} (hk : k.length = n) (w : World) (es : List (List Int × Int)) (he : ∀ e ∈ es, e.1.length = n) :
    (Instr.findKey kt (keyV agg k) (entsF agg 0 es)).run P w = .ok ((mfind k 0 es).map fun p => (p.1, .int .i64 p.2)) w := by
  rcases T with ⟨rfl, rfl, q, hu⟩ | ⟨rfl, ⟨fs, hu⟩, hf⟩
  · exact MapKept.run_findKey hu (now_run hk es 0 0 he)
  · have hA := asking_run (.inr ⟨rfl, ⟨fs, hu⟩, hf⟩) hk w es 0 0 he
    simp only [Instr.findKey, Sem.run_bind, run_underlying hu, Result.andThen_ok]
    cases es with
    | nil => simp [entsF, Instr.findNow, mfind]
    | cons e r =>
      obtain ⟨k', v⟩ := e
      have : Instr.findNow (.struct fs) (keyV true k) (entsF true 0 ((k', v) :: r)) 0 = none := by simp [entsF, Instr.findNow, Instr.sameNow]
      rw [this]; exact hA
theorem check_flat : ∀ (d D : Nat), d ≤ D → ∀ (t : TypeId) (n : List Nat), flatN P d t = some n → ∀ (us : List Value), us.length = n.length → ∀ (e : Bool) (w : World), (Instr.checkKey e D t (mkV P t us)).run P w = .ok () w
  | 0, _, _, t, n, h => by simp [flatN] at h
  | d + 1, 0, hD, _, _, _ => by omega
  | d + 1, D + 1, hD, t, n, h => by
    intro us hl e w
    have sc : ∀ u, P.underlying t = some u → (∀ fs, u ≠ .struct fs) → (∀ e l, u ≠ .array l e) → (∀ m, u ≠ .interface m) → (Instr.checkKey e (D + 1) t (mkV P t us)).run P w = .ok () w := by
      intro u hu h1 h2 h3
      unfold Instr.checkKey
      simp only [Sem.run_bind, run_underlying hu, Result.andThen_ok]
      cases u <;> simp_all
    simp only [flatN] at h
    split at h
    · rename_i hu; exact sc _ hu (by simp) (by simp) (by simp)
    · rename_i hu; exact sc _ hu (by simp) (by simp) (by simp)
    · rename_i hu; exact sc _ hu (by simp) (by simp) (by simp)
    · rename_i fs hu
      split at h
      · simp at h
      · rw [mkV_struct hu]
        unfold Instr.checkKey
        simp only [Sem.run_bind, run_underlying hu, Result.andThen_ok]
        rw [← Array.forIn_toList]
        have key : ∀ (l : List Field) (o : Nat) (m : List Nat), flatFs P (flatN P d) o l = some m → o + m.length ≤ us.length →
            ((forIn l PUnit.unit fun (f : Field) (_ : PUnit) => (do
              if f.name ≠ "_" then
                Instr.checkKey e D f.type (← part f.type us.toArray f.offset)
                pure (ForInStep.yield PUnit.unit)
              else pure (ForInStep.yield PUnit.unit) : Sem (ForInStep PUnit))) : Sem PUnit).run P w = .ok PUnit.unit w := by
          intro l
          induction l with
          | nil => intro o m _ _; simp
          | cons f r ih =>
            intro o m hm ho
            simp only [flatFs] at hm
            split at hm
            · rename_i n' hn'
              split at hm
              · rename_i hc
                simp only [Bool.and_eq_true, bne_iff_ne, ne_eq] at hc
                have ho1 := Nat.eq_of_beq_eq_true hc.1.2
                have hn1 := Nat.eq_of_beq_eq_true hc.2
                split at hm
                · rename_i m' hm'
                  simp only [Option.some.injEq] at hm
                  subst hm
                  simp only [List.length_append] at ho
                  have p1 := part_flat (o := o) hn' hn1 us (by omega) w
                  have c1 := check_flat d D (by omega) f.type n' hn' ((us.drop o).take n'.length) (by simp; omega) e w
                  have hi := ih (o + n'.length) m' hm' (by omega)
                  rw [List.forIn_cons]
                  rw [if_pos hc.1.1]
                  simp only [Sem.run_bind, ho1, p1, Result.andThen_ok, c1, Sem.run_pure]
                  exact hi
                · simp at hm
              · simp at hm
            · simp at hm
        rw [key fs.toList 0 n h (by omega)]; rfl
    · simp at h
theorem mfind_at (k : List Int) : ∀ (es : List (List Int × Int)) (j i : Nat) (v : Int), mfind k j es = some (i, v) → j ≤ i ∧ es[i - j]? = some (k, v)
  | [], _, _, _, h => by simp [mfind] at h
  | (k', v') :: r, j, i, v, h => by
    simp only [mfind] at h
    split at h
    · rename_i e
      simp only [Option.some.injEq, Prod.mk.injEq] at h
      obtain ⟨rfl, rfl⟩ := h
      subst e
      simp
    · obtain ⟨h1, h2⟩ := mfind_at k r (j + 1) i v h
      refine ⟨by omega, ?_⟩
      rw [show i - j = (i - (j + 1)) + 1 from by omega]; simpa using h2
theorem entsF_at (agg : Bool) : ∀ (es : List (List Int × Int)) (j i : Nat), (entsF agg j es)[i]? = (es[i]?).map fun e => ⟨keyV agg e.1, .int .i64 e.2, j + i⟩
  | [], _, i => by simp [entsF]
  | (k, v) :: r, j, 0 => by simp [entsF]
  | (k, v) :: r, j, i + 1 => by
    have := entsF_at agg r (j + 1) i
    simp only [entsF, List.getElem?_cons_succ, this]
    rw [show j + 1 + i = j + (i + 1) from by omega]
theorem entsF_len (agg : Bool) (es : List (List Int × Int)) : ∀ j, (entsF agg j es).length = es.length := by
  induction es with
  | nil => intro j; rfl
  | cons e r ih => intro j; obtain ⟨k, v⟩ := e; simp [entsF, ih]
theorem entsF_snoc (agg : Bool) (k : List Int) (v : Int) : ∀ (es : List (List Int × Int)) (j : Nat), entsF agg j (es ++ [(k, v)]) = entsF agg j es ++ [⟨keyV agg k, .int .i64 v, j + es.length⟩]
  | [], _ => by simp [entsF]
  | (k', v') :: r, j => by
    have := entsF_snoc agg k v r (j + 1)
    simp only [List.cons_append, entsF, this, List.length_cons]
    rw [show j + 1 + r.length = j + (r.length + 1) from by omega]
def mset (i : Nat) (v : Int) (es : List (List Int × Int)) : List (List Int × Int) := es.modify i fun e => (e.1, v)
theorem ents_set (agg : Bool) (es : List (List Int × Int)) (i : Nat) (v : Int) : ((entsF agg 0 es).toArray.modify i fun e => { e with val := .int .i64 v }) = (entsF agg 0 (mset i v es)).toArray := by
  apply Array.ext'
  rw [Array.toList_modify]
  apply List.ext_getElem?
  intro j
  rw [List.getElem?_modify]
  simp only [entsF_at, mset, List.getElem?_modify]
  cases es[j]? with
  | none => simp
  | some e => by_cases h : i = j <;> simp [h]
theorem ents_key (agg : Bool) (es : List (List Int × Int)) (i : Nat) (k : List Int) (v : Int) (h : es[i]? = some (k, v)) : ((entsF agg 0 es).toArray.modify i fun e => { e with key := keyV agg k }) = (entsF agg 0 es).toArray := by
  apply Array.ext'
  rw [Array.toList_modify]
  apply List.ext_getElem?
  intro j
  rw [List.getElem?_modify]
  simp only [entsF_at]
  by_cases e : i = j
  · subst e; rw [h]; simp
  · simp [e]
def mget (k : List Int) (es : List (List Int × Int)) : Int := match mfind k 0 es with | some (_, v) => v | none => 0
def mhas (k : List Int) (es : List (List Int × Int)) : Bool := (mfind k 0 es).isSome
def mpos (k : List Int) (es : List (List Int × Int)) : Nat := match mfind k 0 es with | some (i, _) => i | none => es.length
def mopen (k : List Int) (es : List (List Int × Int)) : List (List Int × Int) := match mfind k 0 es with | some _ => es | none => es ++ [(k, 0)]
def mput (k : List Int) (v : Int) (es : List (List Int × Int)) : List (List Int × Int) := mset (mpos k es) v (mopen k es)
def intsA : List AV → Option (List Int)
  | [] => some []
  | .c (.v (.int .i64 n)) :: r => match intsA r with | some l => some (n :: l) | none => none
  | _ => none
def kty (P : Program) (kt : TypeId) : Option (Bool × Nat) :=
  match ty P kt with
  | some ⟨.int _, _, _, _, _⟩ => some (false, 1)
  | some ⟨.st _, _, _, _, _⟩ => match flatN P 9 kt with
    | some ns => if ns.all (fun i => Nat.beq i 0) then some (true, ns.length) else none
    | none => none
  | _ => none
def keyA : AV → Option (Bool × List Int)
  | .c (.v (.int .i64 n)) => some (false, [n])
  | .agg cs => match intsA cs with | some l => some (true, l) | none => none
  | _ => none
def intTy (P : Program) (t : TypeId) : Bool := match P.info? t with | some i => (match i.zero with | some (.int .i64 0) => true | _ => false) | none => false
/-- A map, its content, and a key of it. -/
def mapAV (P : Program) (h : Nat → Chunk) (t : TypeId) (x k : AV) : Option (Nat × Bool × Nat × List (List Int × Int) × List Int) :=
  match ty P t with
  | some ⟨.mp kt et, _, _, _, _⟩ => match x with
    | .map id => match h id with
      | .mp a n es => match kty P kt, keyA k with
        | some (a', n'), some (a'', l) => if (a == a') && (a == a'') && Nat.beq n n' && Nat.beq n l.length && intTy P et then some (id, a, n, es, l) else none
        | _, _ => none
      | _ => none
    | _ => none
  | _ => none
def ex3 (P : Program) (g : Operand → AV) (h : Nat → Chunk) (m : Nat) : Op → Option (Prop × Eff)
  | .makeMap t none => match ty P t with
    | some ⟨.mp kt et, _, _, _, _⟩ => match kty P kt with
      | some (a, n) => some (True, ⟨.map m, [(m, .mp a n [])], 1⟩)
      | none => none
    | _ => none
  | .lookup t x k ok => match mapAV P h t (g x) (g k) with
    | some (_, _, _, es, l) => some (True, ⟨if ok then .tup [I .i64 (mget l es), B (mhas l es)] else I .i64 (mget l es), [], 0⟩)
    | none => none
  | .mapEntry t x k => match mapAV P h t (g x) (g k) with
    | some (id, a, n, es, l) => some (True, ⟨.tup [I .i64 (mget l es), I .i64 (mpos l es)], [(id, .mp a n (mopen l es))], 0⟩)
    | none => none
  | .mapUpdate t x k v => match mapAV P h t (g x) (g k), g v with
    | some (id, a, n, es, l), .c (.v (.int .i64 y)) => some (True, ⟨.undef, [(id, .mp a n (mput l y es))], 0⟩)
    | _, _ => none
  | .entryStore t x s v => match g x, g s, g v with
    | .map id, .c (.v (.int .i64 i)), .c (.v (.int .i64 y)) => match h id with
      | .mp a n es => some (0 ≤ i ∧ i.toNat < es.length, ⟨.undef, [(id, .mp a n (mset i.toNat y es))], 0⟩)
      | _ => none
    | _, _, _ => none
  | .buildSlice t len parts => match ex2 P g h m (.buildSlice t len parts) with
    | some r => some r
    | none => fzEff (rowsL h (parts.toList.map fun p => g p.2)) (ex2 P (fun o => fz (rowsL h (parts.toList.map fun p => g p.2)) h (g o)) (fzH (rowsL h (parts.toList.map fun p => g p.2)) h) m (.buildSlice t len parts))
  | .store t a x => match ex2 P g h m (.store t a x) with
    | some r => some r
    | none => fzEff (rowsA h (g x)) (ex2 P (fun o => fz (rowsA h (g x)) h (g o)) (fzH (rowsA h (g x)) h) m (.store t a x))
  | op => ex2 P g h m op
theorem kty_ok {kt : TypeId} {a : Bool} {n : Nat} (h : kty P kt = some (a, n)) : KeyTy P kt a n := by
  unfold kty at h
  split at h
  · rename_i k _ _ _ _ ht
    simp only [Option.some.injEq, Prod.mk.injEq] at h
    obtain ⟨rfl, rfl⟩ := h
    obtain ⟨_, u, _, h2, h3, _⟩ := ty_kind ht
    have := kind_int h3
    subst this
    exact .inl ⟨rfl, rfl, k, h2⟩
  · rename_i ht
    split at h
    · rename_i ns hn
      split at h
      · rename_i hz
        simp only [Option.some.injEq, Prod.mk.injEq] at h
        obtain ⟨rfl, rfl⟩ := h
        obtain ⟨_, u, _, h2, h3, _⟩ := ty_kind ht
        obtain ⟨fs, rfl, _⟩ := kind_st h3
        refine .inr ⟨rfl, ⟨fs, h2⟩, ?_⟩
        rw [hn]
        congr 1
        refine List.eq_replicate_iff.2 ⟨rfl, fun b hb => ?_⟩
        exact Nat.eq_of_beq_eq_true (List.all_eq_true.1 hz b hb)
      · simp at h
    · simp at h
  · simp at h
theorem intsA_rel : ∀ {cs : List AV} {l : List Int}, intsA cs = some l → ∀ {vs : List Value}, RelL U w F β cs vs → vs = l.map (.int .i64)
  | [], l, h, vs, hr => by simp [intsA] at h; subst h; simpa [RelL] using hr
  | x :: r, l, h, vs, hr => by
    simp only [RelL] at hr
    obtain ⟨u, us, rfl, h1, h2⟩ := hr
    unfold intsA at h
    split at h
    · simp at *
    · rename_i n r' heq
      obtain ⟨rfl, rfl⟩ := List.cons.inj heq
      split at h
      · rename_i l' hl'
        simp only [Option.some.injEq] at h
        subst h
        rw [(relC.1 h1).1, intsA_rel hl' h2]; rfl
      · simp at h
    · simp at h
theorem keyA_rel {x : AV} {a : Bool} {l : List Int} (h : keyA x = some (a, l)) {u : Value} (hr : RelA U w F β x u) : u = keyV a l := by
  unfold keyA at h
  split at h
  · simp only [Option.some.injEq, Prod.mk.injEq] at h
    obtain ⟨rfl, rfl⟩ := h
    rw [(relC.1 hr).1]; rfl
  · split at h
    · rename_i l' hl'
      simp only [Option.some.injEq, Prod.mk.injEq] at h
      obtain ⟨rfl, rfl⟩ := h
      simp only [RelA] at hr
      obtain ⟨vs, rfl, h1, _⟩ := hr
      have := intsA_rel hl' h1
      simp only [keyV, if_true, ← this]
    · simp at h
  · simp at h
theorem check_key {kt : TypeId} {a : Bool} {n : Nat} (T : KeyTy P kt a n) {l : List Int} (hl : l.length = n) (e : Bool) (w : World) : (Instr.checkKey e 10000 kt (keyV a l)).run P w = .ok () w := by
  rcases T with ⟨rfl, rfl, k, hu⟩ | ⟨rfl, ⟨fs, hu⟩, hf⟩
  · obtain ⟨x, rfl⟩ := List.length_eq_one_iff.1 hl
    have hf : flatN P 9 kt = some [0] := by simp only [flatN, hu]
    have e1 : keyV false [x] = mkV P kt (intV [x]) := by rw [mkV_scalar hu (by simp)]; rfl
    rw [e1]
    exact check_flat 9 10000 (by omega) kt _ hf _ rfl e w
  · rw [key_mkV (n := n) hu]
    exact check_flat 9 10000 (by omega) kt _ hf _ (by simp [intV, hl]) e w
theorem kind_mp {u : TypeDesc} {k e : TypeId} (h : kindOf P u = .mp k e) : u = .map k e := by
  unfold kindOf at h
  cases u <;> simp at h
  simp [h]
theorem mapAV_ok (M : MemOk W N U F β h w) (hs : ∀ id, hT id ≠ .dead → hT id = h id) {t : TypeId} {x k : AV} {id : Nat} {a : Bool} {n : Nat} {es : List (List Int × Int)} {l : List Int} (he : mapAV P hT t x k = some (id, a, n, es, l))
    {u uk : Value} (hx : RelA U w F β x u) (hk : RelA U w F β k uk) :
    ∃ kt et bd g, P.underlying t = some (.map kt et) ∧ KeyTy P kt a n ∧ l.length = n ∧ β id = some bd ∧ bd.b = some g ∧ u = .map (some g) ∧ uk = keyV a l ∧ w.heap[g]? = some (.map (entsF a 0 es).toArray es.length) ∧ (∀ e ∈ es, e.1.length = n) ∧ ∀ w', (zeroValue et).run P w' = .ok (.int .i64 0) w' := by
  unfold mapAV at he
  split at he
  · rename_i kt et _ _ _ _ ht
    split at he
    · rename_i id'
      split at he
      · rename_i a' n' es' hc
        split at he
        · rename_i b m c l' hkt hka
          split at he
          · rename_i hq
            simp only [Bool.and_eq_true, beq_iff_eq] at hq
            obtain ⟨⟨⟨⟨rfl, rfl⟩, h3⟩, h4⟩, h5⟩ := hq
            have h3 := Nat.eq_of_beq_eq_true h3
            have h4 := Nat.eq_of_beq_eq_true h4
            subst h3
            simp only [Option.some.injEq, Prod.mk.injEq] at he
            obtain ⟨rfl, rfl, rfl, rfl, rfl⟩ := he
            obtain ⟨_, ud, _, e2, e3, _⟩ := ty_kind ht
            have := kind_mp e3
            subst this
            obtain ⟨bd, hb, h0, g, hg, hh⟩ := M.get hs hc (by simp)
            simp only [RelA] at hx
            have hu := hx.2.2 bd hb
            rw [hg] at hu
            refine ⟨kt, et, bd, g, e2, kty_ok hkt, h4.symm, hb, hg, hu, keyA_rel hka hk, hh, h0, fun w' => ?_⟩
            unfold intTy at h5
            split at h5
            · rename_i i hi
              split at h5
              · rename_i hz; exact run_zero' hi hz w'
              · simp at h5
            · simp at h5
          · simp at he
        · simp at he
      · simp at he
    · simp at he
  · simp at he
theorem relL_two {x y : AV} {u v : Value} (h1 : RelA U w F β x u) (h2 : RelA U w F β y v) : RelL U w F β [x, y] [u, v] := by simp only [RelL]; exact ⟨u, [v], rfl, h1, v, [], rfl, h2, rfl⟩
theorem map_store (M : MemOk W N U F β h w) (m : Nat) {id : Nat} {bd : Bind} (hb : β id = some bd) {g : Nat} (hg : bd.b = some g) {o : Obj} (ho : w.heap[g]? = some o) {a : Bool} {n : Nat} {es : List (List Int × Int)} (h0 : ∀ e ∈ es, e.1.length = n) {x : AV} {v : Value} (hx : ∀ (U F : Nat → Prop) (w : World) (β : Nat → Option Bind), RelA U w F β x v) :
    StepTo W N U F β h w m ⟨x, [(id, .mp a n es)], 0⟩ v { w with heap := w.heap.setIfInBounds g (.map (entsF a 0 es).toArray es.length) } := by
  obtain ⟨k1, k2⟩ := MapKept.heap_set (o' := .map (entsF a 0 es).toArray es.length) ho
  obtain ⟨F', β', M', E', _, hF⟩ := step_set (w' := { w with heap := w.heap.setIfInBounds g (.map (entsF a 0 es).toArray es.length) }) M m hb hg rfl rfl rfl (by simp) (fun b hne => k2 b hne) (c := .mp a n es) (fun _ => ⟨h0, g, hg, k1⟩) v
  exact ⟨F', β', M', E', hx _ _ _ _, hF⟩
theorem mget_some {k : List Int} {es : List (List Int × Int)} {i : Nat} {v : Int} (h : mfind k 0 es = some (i, v)) : es[i]? = some (k, v) := by simpa using (mfind_at k es 0 i v h).2
theorem mapEntry_run (M : MemOk W N U F β h w) (hs : ∀ id, hT id ≠ .dead → hT id = h id) (m : Nat) {t : TypeId} {x k : AV} {id : Nat} {a : Bool} {n : Nat} {es : List (List Int × Int)} {l : List Int} (he : mapAV P hT t x k = some (id, a, n, es, l))
    {u uk : Value} (hx : RelA U w F β x u) (hk : RelA U w F β k uk) :
    ∃ z w', (Instr.mapEntry t u uk).run P w = .ok z w' ∧ StepTo W N U F β h w m ⟨.tup [I .i64 (mget l es), I .i64 (mpos l es)], [(id, .mp a n (mopen l es))], 0⟩ z w' := by
  obtain ⟨kt, et, bd, g, h1, h2, h3, h4, h5, rfl, rfl, h6, h7, h8⟩ := mapAV_ok M hs he hx hk
  have hrel : ∀ (v : Int) (p : Nat) (U F : Nat → Prop) (w : World) (β : Nat → Option Bind), RelA U w F β (.tup [I .i64 v, I .i64 p]) (.tuple #[.int .i64 v, .int .i64 p]) := fun v p U F w β => by
    simp only [RelA]; exact ⟨_, rfl, relL_two (relI.2 rfl) (relI.2 rfl)⟩
  have hf := find_run h2 h3 w es h7
  cases hm : mfind l 0 es with
  | none =>
    rw [hm] at hf
    refine ⟨_, _, ?_, map_store M m h4 h5 h6 (es := mopen l es) (by
      unfold mopen; rw [hm]; intro e hee; rcases List.mem_append.1 hee with q | q; exact h7 e q; simp at q; subst q; exact h3) (hrel _ _)⟩
    · simp only [Instr.mapEntry, Sem.run_bind, run_underlying h1, Result.andThen_ok, MapKept.run_getObj_map h6, check_key h2 h3 false w, hf, Option.map_none, h8, MapKept.run_setObj_map _ h6, Sem.run_pure]
      unfold mopen mget mpos
      rw [hm]
      simp only [entsF_snoc, List.length_append, List.length_cons, List.length_nil, Nat.zero_add]
      congr 1
      simp
  | some p =>
    obtain ⟨i, v⟩ := p
    rw [hm] at hf
    have hi := mget_some hm
    have he0 : (entsF a 0 es).toArray[i]? = some ⟨keyV a l, .int .i64 v, i⟩ := by rw [List.getElem?_toArray, entsF_at, hi]; simp
    refine ⟨_, _, ?_, map_store M m h4 h5 h6 (es := mopen l es) (by unfold mopen; rw [hm]; exact h7) (hrel _ _)⟩
    · simp only [Instr.mapEntry, Sem.run_bind, run_underlying h1, Result.andThen_ok, MapKept.run_getObj_map h6, check_key h2 h3 false w, hf, Option.map_some, he0, Option.getD_some, stays_run, MapKept.run_setObj_map _ h6, Sem.run_pure, ents_key a es i l v hi]
      unfold mopen mget mpos
      rw [hm]
      rfl
theorem mapUpdate_run (M : MemOk W N U F β h w) (hs : ∀ id, hT id ≠ .dead → hT id = h id) (m : Nat) {t : TypeId} {x k : AV} {id : Nat} {a : Bool} {n : Nat} {es : List (List Int × Int)} {l : List Int} {y : Int} (he : mapAV P hT t x k = some (id, a, n, es, l))
    {u uk : Value} (hx : RelA U w F β x u) (hk : RelA U w F β k uk) :
    ∃ w', (Instr.mapUpdate t u uk (.int .i64 y)).run P w = .ok () w' ∧ StepTo W N U F β h w m ⟨.undef, [(id, .mp a n (mput l y es))], 0⟩ undef w' := by
  obtain ⟨kt, et, bd, g, h1, h2, h3, h4, h5, rfl, rfl, h6, h7, h8⟩ := mapAV_ok M hs he hx hk
  have hrel : ∀ (U F : Nat → Prop) (w : World) (β : Nat → Option Bind), RelA U w F β .undef undef := fun U F w β => by simp only [RelA]
  have hf := find_run h2 h3 w es h7
  have hlen : ∀ (es' : List (List Int × Int)) (i : Nat), (∀ e ∈ es', e.1.length = n) → ∀ e ∈ mset i y es', e.1.length = n := by
    intro es' i hh e hee
    unfold mset at hee
    obtain ⟨j, hj, rfl⟩ := List.getElem_of_mem hee
    rw [List.getElem_modify]
    have := hh _ (List.getElem_mem (l := es') (n := j) (by simpa using hj))
    split <;> exact this
  cases hm : mfind l 0 es with
  | none =>
    rw [hm] at hf
    have e1 : mput l y es = es ++ [(l, y)] := by
      unfold mput mset mpos mopen
      rw [hm]
      apply List.ext_getElem?
      intro j
      rw [List.getElem?_modify]
      rcases Nat.lt_trichotomy j es.length with hj | hj | hj
      · rw [List.getElem?_append_left hj, List.getElem?_append_left hj]; simp [Nat.ne_of_gt hj]
      · subst hj; simp
      · rw [List.getElem?_eq_none (by simp; omega), List.getElem?_eq_none (by simp; omega)]; rfl
    refine ⟨_, ?_, map_store M m h4 h5 h6 (es := mput l y es) (by
      rw [e1]; intro e hee; rcases List.mem_append.1 hee with q | q; exact h7 e q; simp at q; subst q; exact h3) hrel⟩
    simp only [Instr.mapUpdate, Sem.run_bind, run_underlying h1, Result.andThen_ok, MapKept.run_getObj_map h6, check_key h2 h3 false w, hf, Option.map_none, MapKept.run_setObj_map _ h6]
    rw [e1]
    simp only [entsF_snoc, List.length_append, List.length_cons, List.length_nil, Nat.zero_add]
    congr 1
    simp
  | some p =>
    obtain ⟨i, v⟩ := p
    rw [hm] at hf
    have hi := mget_some hm
    have he0 : (entsF a 0 es).toArray[i]? = some ⟨keyV a l, .int .i64 v, i⟩ := by rw [List.getElem?_toArray, entsF_at, hi]; simp
    have e1 : mput l y es = mset i y es := by unfold mput mpos mopen; rw [hm]
    have e2 : ((entsF a 0 es).toArray.modify i fun e => { e with key := keyV a l, val := .int .i64 y }) = (entsF a 0 (mset i y es)).toArray := by
      rw [← ents_set]
      apply Array.ext'
      rw [Array.toList_modify, Array.toList_modify]
      apply List.ext_getElem?
      intro j
      rw [List.getElem?_modify, List.getElem?_modify]
      simp only [entsF_at]
      by_cases e : i = j
      · subst e; rw [hi]; simp
      · simp [e]
    refine ⟨_, ?_, map_store M m h4 h5 h6 (es := mput l y es) (by rw [e1]; exact hlen es i h7) hrel⟩
    simp only [Instr.mapUpdate, Sem.run_bind, run_underlying h1, Result.andThen_ok, MapKept.run_getObj_map h6, check_key h2 h3 false w, hf, Option.map_some, he0, Option.getD_some, stays_run, MapKept.run_setObj_map _ h6, e2, e1]
    simp [mset]
theorem lookup_run (M : MemOk W N U F β h w) (hs : ∀ id, hT id ≠ .dead → hT id = h id) (m : Nat) {t : TypeId} {x k : AV} {id : Nat} {a : Bool} {n : Nat} {es : List (List Int × Int)} {l : List Int} (ok : Bool) (he : mapAV P hT t x k = some (id, a, n, es, l))
    {u uk : Value} (hx : RelA U w F β x u) (hk : RelA U w F β k uk) :
    ∃ z, (Instr.lookup t u uk ok).run P w = .ok z w ∧ RelA U w F β (if ok then .tup [I .i64 (mget l es), B (mhas l es)] else I .i64 (mget l es)) z := by
  obtain ⟨kt, et, bd, g, h1, h2, h3, h4, h5, rfl, rfl, h6, h7, h8⟩ := mapAV_ok M hs he hx hk
  have hf := find_run h2 h3 w es h7
  have hrel : RelA U w F β (if ok then .tup [I .i64 (mget l es), B (mhas l es)] else I .i64 (mget l es)) (if ok then .tuple #[.int .i64 (mget l es), .bool (mhas l es)] else .int .i64 (mget l es)) := by
    cases ok with
    | true => simp only [if_true, RelA]; exact ⟨_, rfl, relL_two (relI.2 rfl) (relB.2 rfl)⟩
    | false => exact relI.2 rfl
  refine ⟨_, ?_, hrel⟩
  unfold mget mhas
  cases hm : mfind l 0 es with
  | none =>
    rw [hm] at hf
    cases ok <;> simp [Instr.lookup, run_underlying h1, MapKept.run_getObj_map h6, check_key h2 h3 _ w, hf, Result.andThen, h8]
  | some p =>
    obtain ⟨i, v⟩ := p
    rw [hm] at hf
    cases ok <;> simp [Instr.lookup, run_underlying h1, MapKept.run_getObj_map h6, check_key h2 h3 _ w, hf, Result.andThen]
theorem entryStore_run (M : MemOk W N U F β h w) (hs : ∀ id, hT id ≠ .dead → hT id = h id) (m : Nat) {t : TypeId} {id : Nat} {a : Bool} {n : Nat} {es : List (List Int × Int)} {i y : Int} (hc : hT id = .mp a n es) (hi0 : 0 ≤ i) (hi : i.toNat < es.length)
    {u : Value} (hx : RelA U w F β (.map id) u) :
    ∃ w', (Instr.entryStore t u (.int .i64 i) (.int .i64 y)).run P w = .ok () w' ∧ StepTo W N U F β h w m ⟨.undef, [(id, .mp a n (mset i.toNat y es))], 0⟩ undef w' := by
  obtain ⟨bd, hb, h0, g, hg, hh⟩ := M.get hs hc (by simp)
  simp only [RelA] at hx
  have hu := hx.2.2 bd hb
  rw [hg] at hu
  subst hu
  obtain ⟨i', rfl⟩ := Int.eq_ofNat_of_zero_le hi0
  simp only [Int.toNat_natCast] at hi ⊢
  have hfi : (entsF a 0 es).toArray.findIdx? (fun e => (e.born : Int) == (i' : Int)) = some i' := by
    rw [Array.findIdx?_eq_some_iff_getElem]
    have hl : i' < (entsF a 0 es).toArray.size := by simp [entsF_len]; exact hi
    have at_ : ∀ j (hj : j < (entsF a 0 es).toArray.size), ((entsF a 0 es).toArray[j]).born = j := by
      intro j hj
      have h1 := entsF_at a es 0 j
      have hj' : j < (entsF a 0 es).length := by simpa using hj
      have hj2 : j < es.length := by rwa [entsF_len] at hj'
      rw [List.getElem?_eq_getElem hj', List.getElem?_eq_getElem hj2] at h1
      simp only [Option.map_some, Option.some.injEq] at h1
      simp [h1]
    refine ⟨hl, by rw [at_ i' hl]; simp, fun j hj => ?_⟩
    rw [at_ j (by omega)]
    simp; omega
  refine ⟨_, ?_, map_store M m hb hg hh (es := mset i' y es) (by
    intro e hee
    unfold mset at hee
    obtain ⟨j, hj, rfl⟩ := List.getElem_of_mem hee
    rw [List.getElem_modify]
    have := h0 _ (List.getElem_mem (l := es) (n := j) (by simpa using hj))
    split <;> exact this) (fun U F w β => by simp only [RelA])⟩
  have hl2 : (mset i' y es).length = es.length := by simp [mset]
  simp only [Instr.entryStore, Sem.run_bind, Result.andThen_ok, MapKept.run_getObj_map hh, asInt, asIntOf, Sem.run_pure, hfi, MapKept.run_setObj_map _ hh, ents_set, hl2]
theorem ex3_run (M : MemOk W N U F β h w) (hs : ∀ id, hT id ≠ .dead → hT id = h id) {m : Nat} (hm : ¬ U m) {g : Operand → AV} {ev : Operand → Value} {o : Oper} (G : ∀ x ∈ o.op.operands.toList, RelA U w F β (g x) (ev x)) {φ : Prop} {r : Eff} (he : ex3 P g hT m o.op = some (φ, r)) (hφ : φ) :
    ∃ n w', (execOp ev o).run P w = .ok n w' ∧ isVal n = true ∧ StepTo W N U F β h w m r (nv n) w' := by
  have frz : ∀ (Z : List Nat), fzEff Z (ex2 P (fun o => fz Z hT (g o)) (fzH Z hT) m o.op) = some (φ, r) → ∃ n w', (execOp ev o).run P w = .ok n w' ∧ isVal n = true ∧ StepTo W N U F β h w m r (nv n) w' := by
    intro Z hz
    cases hx : ex2 P (fun o => fz Z hT (g o)) (fzH Z hT) m o.op with
    | none => rw [hx] at hz; simp [fzEff] at hz
    | some q =>
      obtain ⟨ψ, v, ups, fr⟩ := q
      rw [hx] at hz
      simp only [fzEff, Option.some.injEq, Prod.mk.injEq] at hz
      obtain ⟨rfl, rfl⟩ := hz
      obtain ⟨n, w', k1, k2, k3⟩ := ex2_run (fz_mem M Z) (hT := fzH Z hT) (fun id hd => by
        unfold fzH at hd ⊢
        cases hzz : inZ Z id with
        | true => simp [hzz] at hd
        | false => rw [hzz] at hd; exact hs id hd) hm (g := fun o => fz Z hT (g o)) (fun x hx => fz_run M hs Z _ _ (G x hx)) hx hφ
      exact ⟨n, w', k1, k2, k3.behind M Z⟩
  unfold ex3 at he
  split at he
  · rename_i t hop
    split at he
    · rename_i kt et _ _ _ _ ht
      split at he
      · rename_i a n hk
        simp only [Option.some.injEq, Prod.mk.injEq] at he
        obtain ⟨rfl, rfl⟩ := he
        refine ⟨.value (.map (some w.heap.size)), w.alloc (.map #[] 0), ?_, rfl, ?_⟩
        · simp only [execOp, hop, Instr.makeMap, Option.map_none, Sem.run_bind, run_newObj, Result.andThen_ok, Sem.run_pure]
          try rfl
        · refine step_new M hm (.map #[] 0) ⟨.map (some w.heap.size), some w.heap.size, 0, 0⟩ rfl (fun E => ⟨(by intro e he; simp at he), w.heap.size, rfl, heap_alloc_new w (.map #[] 0)⟩) ?_
          simp only [RelA]
          refine ⟨.inr ⟨Nat.le_refl _, by omega⟩, rfl, fun bd hb => ?_⟩
          simp only [updB, if_true, Option.some.injEq] at hb
          subst hb; rfl
      · simp at he
    · simp at he
  · rename_i t x k ok hop
    split at he
    · rename_i id a n es l hma
      simp only [Option.some.injEq, Prod.mk.injEq] at he
      obtain ⟨rfl, rfl⟩ := he
      obtain ⟨z, k1, k2⟩ := lookup_run M hs m ok hma (G x (by simp [hop, Op.operands])) (G k (by simp [hop, Op.operands]))
      exact ⟨.value z, w, by simp only [execOp, hop, Sem.run_bind, k1, Result.andThen_ok, Sem.run_pure], rfl, step_pure M m k2⟩
    · simp at he
  · rename_i t x k hop
    split at he
    · rename_i id a n es l hma
      simp only [Option.some.injEq, Prod.mk.injEq] at he
      obtain ⟨rfl, rfl⟩ := he
      obtain ⟨z, w', k1, k2⟩ := mapEntry_run M hs m hma (G x (by simp [hop, Op.operands])) (G k (by simp [hop, Op.operands]))
      exact ⟨.value z, w', by simp only [execOp, hop, Sem.run_bind, k1, Result.andThen_ok, Sem.run_pure], rfl, k2⟩
    · simp at he
  · rename_i t x k v hop
    split at he
    · rename_i id a n es l y hma hy
      simp only [Option.some.injEq, Prod.mk.injEq] at he
      obtain ⟨rfl, rfl⟩ := he
      obtain ⟨w', k1, k2⟩ := mapUpdate_run (y := y) M hs m hma (G x (by simp [hop, Op.operands])) (G k (by simp [hop, Op.operands]))
      have hv := G v (by simp [hop, Op.operands])
      rw [hy] at hv
      rw [← (relC.1 hv).1] at k1
      exact ⟨.skip, w', by simp only [execOp, hop, Sem.run_bind, k1, Result.andThen_ok, Sem.run_pure], rfl, k2⟩
    · simp at he
  · rename_i t x s v hop
    split at he
    · rename_i id i y hx hsv hy
      split at he
      · rename_i a n es hc
        simp only [Option.some.injEq, Prod.mk.injEq] at he
        obtain ⟨rfl, rfl⟩ := he
        have hxr := G x (by simp [hop, Op.operands])
        have hsr := G s (by simp [hop, Op.operands])
        have hvr := G v (by simp [hop, Op.operands])
        rw [hx] at hxr; rw [hsv] at hsr; rw [hy] at hvr
        obtain ⟨w', k1, k2⟩ := entryStore_run (P := P) (t := t) (y := y) M hs m hc hφ.1 hφ.2 hxr
        rw [← (relC.1 hsr).1, ← (relC.1 hvr).1] at k1
        exact ⟨.skip, w', by simp only [execOp, hop, Sem.run_bind, k1, Result.andThen_ok, Sem.run_pure], rfl, k2⟩
      · simp at he
    · simp at he
  · rename_i t len parts hop
    split at he
    · rename_i q hq
      rw [← hop] at hq
      exact ex2_run M hs hm G (by rw [hq]; exact he) hφ
    · rw [← hop] at he; exact frz _ he
  · rename_i t a x hop
    split at he
    · rename_i q hq
      rw [← hop] at hq
      exact ex2_run M hs hm G (by rw [hq]; exact he) hφ
    · rw [← hop] at he; exact frz _ he
  · exact ex2_run M hs hm G he hφ
end
end Go.Proofs.Ytibknlfadoeglaa
