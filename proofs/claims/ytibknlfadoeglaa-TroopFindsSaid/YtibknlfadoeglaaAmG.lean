/- The abstract machine, part G: the model's operations that make or write memory do what part F says. -/
import Derived.Test.YtibknlfadoeglaaAmF
namespace Go.Proofs.Ytibknlfadoeglaa
set_option linter.all false
open Go.RowKit
section
variable {P : Program} {W : World} {N U F : Nat → Prop} {β : Nat → Option Bind} {h hT : Nat → Chunk} {w : World}
theorem cellsOf_run {x : AV} {cs : List AV} (he : cellsOf x = some cs) {v : Value} (hv : RelA U w F β x v) : RelL U w F β cs v.cells.toList ∧ ∀ u ∈ v.cells.toList, u.oneCell' = true := by
  have one : v.oneCell' = true → RelL U w F β [x] v.cells.toList ∧ ∀ u ∈ v.cells.toList, u.oneCell' = true := by
    intro h1
    have e : v.cells = #[v] := by cases v <;> first | rfl | simp [Value.oneCell'] at h1
    rw [e]
    simp only [RelL]
    exact ⟨⟨v, [], rfl, hv, rfl⟩, by simpa using h1⟩
  unfold cellsOf at he
  split at he
  · simp only [Option.some.injEq] at he; subst he
    simp only [RelA] at hv
    obtain ⟨vs, rfl, h1, h2⟩ := hv
    exact ⟨h1, h2⟩
  · simp at he
  · simp at he
  · simp at he
  · rename_i x' h1 h2 h3 h4
    simp only [Option.some.injEq] at he; subst he
    apply one
    cases x with
    | c p => simp only [RelA] at hv; exact hv.one
    | own id => simp only [RelA] at hv; exact hv.2.1
    | view id o l => simp only [RelA] at hv; exact hv.2.1
    | ptr id i o => simp only [RelA] at hv; exact hv.2.1
    | map id => simp only [RelA] at hv; exact hv.2.1
    | fel sz xs i o => simp only [RelA] at hv; obtain ⟨b, p, rfl, _⟩ := hv; rfl
    | clo f a b => simp only [RelA] at hv; obtain ⟨fs, cs, rfl, _⟩ := hv; rfl
    | ifc t y => simp only [RelA] at hv; obtain ⟨y, rfl, _⟩ := hv; rfl
    | undef => exact (h3 rfl).elim
    | agg xs => exact (h1 _ rfl).elim
    | tup xs => exact (h2 _ rfl).elim
    | opt t y => exact (h4 _ _ rfl).elim
theorem toPVs_run : ∀ {cs : List AV} {ps : List PV}, toPVs cs = some ps → cs = ps.map .c
  | [], ps, h => by simp only [toPVs, Option.some.injEq] at h; subst h; rfl
  | x :: r, ps, h => by
    unfold toPVs at h
    split at h
    · rename_i p qs h1 h2
      simp only [Option.some.injEq] at h; subst h
      have := toPVs_run h2
      cases x <;> simp [toPV] at h1
      subst h1
      simp [← this]
    · simp at h
theorem relL_map {ps : List PV} {vs : List Value} (h : RelL U w F β (ps.map .c) vs) (j : Nat) (p : PV) (hp : ps[j]? = some p) : ∃ u, vs[j]? = some u ∧ RelP w F p u := by
  obtain ⟨u, h1, h2⟩ := h.at j (.c p) (by simp [hp])
  exact ⟨u, h1, by simpa only [RelA] using h2⟩
theorem splice_len {α : Type} (l : List α) (o : Nat) (ps : List α) (h : o + ps.length ≤ l.length) : (splice l o ps).length = l.length := by
  simp [splice]; omega
theorem splice_get {α : Type} (l : List α) (o : Nat) (ps : List α) (h : o + ps.length ≤ l.length) (j : Nat) : (splice l o ps)[j]? = if o ≤ j ∧ j < o + ps.length then ps[j - o]? else l[j]? := by
  unfold splice
  by_cases h1 : j < o
  · rw [List.getElem?_append_left (by simp; omega), List.getElem?_take, if_pos h1, if_neg (by omega)]
  · rw [List.getElem?_append_right (by simp; omega)]
    simp only [List.length_take]
    rw [show min o l.length = o from by omega]
    by_cases h2 : j < o + ps.length
    · rw [List.getElem?_append_left (by omega), if_pos (by omega)]
    · rw [List.getElem?_append_right (by omega), if_neg (by omega), List.getElem?_drop]
      congr 1; omega
theorem relL_splice {xs ys : List AV} {us vs : List Value} (h1 : RelL U w F β xs us) (h2 : RelL U w F β ys vs) (o : Nat) : RelL U w F β (splice xs o ys) (splice us o vs) := by
  unfold splice
  rw [h2.len]
  exact (h1.take o).append (h2.append (h1.drop _))
theorem fold_splice : ∀ (l : List Value) (k o : Nat) (cs : Array Value), o + k + l.length ≤ cs.size → ((l.zipIdx k).foldl (fun cs (c, j) => cs.setIfInBounds (o + j) c) cs).toList = splice cs.toList (o + k) l
  | [], k, o, cs, _ => by simp [splice]
  | x :: l, k, o, cs, hl => by
    simp only [List.zipIdx_cons, List.foldl_cons]
    have ih := fold_splice l (k + 1) o (cs.setIfInBounds (o + k) x) (by simp at hl ⊢; omega)
    rw [ih]
    simp only [List.length_cons] at hl
    apply List.ext_getElem?
    intro j
    have hcl : cs.toList.length = cs.size := by simp
    rw [splice_get _ _ _ (by simp; omega), splice_get _ _ _ (by simp; omega), Array.toList_setIfInBounds, List.getElem?_set]
    simp only [List.length_cons, hcl]
    by_cases h1 : j = o + k
    · subst h1
      rw [if_neg (by omega), if_pos rfl, if_pos (by omega), if_pos (by omega), Nat.sub_self]; rfl
    · by_cases h2 : o + k ≤ j ∧ j < o + k + (l.length + 1)
      · rw [if_pos (by omega), if_pos h2, show j - (o + k) = (j - (o + (k + 1))) + 1 from by omega, List.getElem?_cons_succ]
      · rw [if_neg (by omega), if_neg (by omega), if_neg (by omega)]
theorem fill_run {place place' : Nat → Option (Nat × Nat)} (hpp : ∀ i x, place i = some x → place' i = some x) : ∀ (parts : List (Nat × AV)) (ps : List (Nat × Value)) (cs : List AV) (cs' : List AV) (us : Array Value), fillA place cs parts = some cs' → ps.length = parts.length →
    (∀ (i : Nat) (a : Nat × AV) (b : Nat × Value), parts[i]? = some a → ps[i]? = some b → a.1 = b.1 ∧ RelA U w F β a.2 b.2) → RelL U w F β cs us.toList → (∀ u ∈ us.toList, u.oneCell' = true) →
    ∃ us', Instr.fill place' us ps = some us' ∧ RelL U w F β cs' us'.toList ∧ (∀ u ∈ us'.toList, u.oneCell' = true)
  | [], ps, cs, cs', us, h, hl, _, hr, h1 => by
    obtain rfl : ps = [] := List.eq_nil_of_length_eq_zero hl
    simp only [fillA, Option.some.injEq] at h; subst h
    exact ⟨us, rfl, hr, h1⟩
  | (i, x) :: r, [], _, _, _, _, hl, _, _, _ => by simp at hl
  | (i, x) :: r, (i', v) :: ps, cs, cs', us, h, hl, hp, hr, h1 => by
    obtain ⟨h2, h3⟩ := hp 0 _ _ rfl rfl
    simp only at h2 h3
    subst h2
    unfold fillA at h
    split at h
    · rename_i o n ys hpl hys
      split at h
      · rename_i hc
        simp only [Bool.and_eq_true] at hc
        have hn := Nat.eq_of_beq_eq_true hc.1
        have hle := Nat.le_of_ble_eq_true hc.2
        obtain ⟨k1, k2⟩ := cellsOf_run hys h3
        have kl := k1.len
        have hul := hr.len
        have hcs : v.cells.size = n := by simpa [hn] using kl
        have hus : us.size = cs.length := by simpa using hul
        have hf := fold_splice v.cells.toList 0 o us (by simp; omega)
        simp only [Nat.add_zero] at hf
        have hx : ∀ u ∈ splice us.toList o v.cells.toList, u.oneCell' = true := by
          intro u hu
          unfold splice at hu
          rcases List.mem_append.1 hu with hu | hu
          · exact h1 u (List.mem_of_mem_take hu)
          · rcases List.mem_append.1 hu with hu | hu
            · exact k2 u hu
            · exact h1 u (List.mem_of_mem_drop hu)
        obtain ⟨us', e1, e2, e3⟩ := fill_run hpp r ps _ cs' (v.cells.zipIdx.foldl (fun cs (c, j) => cs.setIfInBounds (o + j) c) us) h (by simpa using hl) (fun i a b ha hb => hp (i + 1) a b ha hb)
          (by rw [← Array.foldl_toList, Array.toList_zipIdx, hf]; exact relL_splice hr k1 o) (by rw [← Array.foldl_toList, Array.toList_zipIdx, hf]; exact hx)
        refine ⟨us', ?_, e2, e3⟩
        unfold Instr.fill
        simp only [hpp _ _ hpl]
        rw [if_neg (by rw [hcs]; simp; omega)]
        exact e1
      · simp at h
    · simp at h
theorem parts_rel {g : Operand → AV} {ev : Operand → Value} (parts : Array (Nat × Operand)) (G : ∀ p ∈ parts.toList, RelA U w F β (g p.2) (ev p.2)) : ∀ (i : Nat) (a : Nat × AV) (b : Nat × Value), (parts.toList.map fun p => (p.1, g p.2))[i]? = some a → (parts.map fun (i, x) => (i, ev x)).toList[i]? = some b → a.1 = b.1 ∧ RelA U w F β a.2 b.2 := by
  intro i a b ha hb
  rw [Array.toList_map, List.getElem?_map] at hb
  rw [List.getElem?_map] at ha
  cases hp : parts.toList[i]? with
  | none => rw [hp] at ha; simp at ha
  | some p =>
    rw [hp] at ha hb
    simp only [Option.map_some, Option.some.injEq] at ha hb
    subst ha hb
    exact ⟨rfl, G p (List.mem_of_getElem? hp)⟩
theorem zero_rel {z : List Value} (hz : z.all (·.oneCell') = true) : RelL U w F β (z.map fun v => .c (.v v)) z := by
  refine RelL.of (by simp) fun i x u hx hu => ?_
  rw [List.getElem?_map, hu] at hx
  simp only [Option.map_some, Option.some.injEq] at hx
  subst hx
  exact relC.2 ⟨rfl, List.all_eq_true.1 hz u (List.mem_of_getElem? hu)⟩
theorem places_run (w : World) : ∀ (fs : List Field), (fs.map (fieldTD P)).all (·.isSome) = true → ∃ ps : List (Nat × Nat), (fs.mapM fun f => (do pure (f.offset, ← sizeOf f.type) : Sem (Nat × Nat))).run P w = .ok ps w ∧ ∀ i o n, plFs (fs.map (fieldTD P)) i = some (o, n) → ps[i]? = some (o, n)
  | [], _ => ⟨[], by simp, fun i o n h => by simp [plFs] at h⟩
  | f :: fs, h => by
    simp only [List.map_cons, List.all_cons, Bool.and_eq_true] at h
    obtain ⟨ps, h1, h2⟩ := places_run w fs h.2
    obtain ⟨⟨o, n, a⟩, ho⟩ := Option.isSome_iff_exists.1 h.1
    obtain ⟨fd, i, d, k1, k2, k3, k4, k5, k6⟩ := field_some (fs := #[f]) (f := 0) (o := o) (n := n) (a := a) (by simpa using ho)
    simp at k1
    subst k1
    refine ⟨(f.offset, i.size) :: ps, ?_, ?_⟩
    · simp only [List.mapM_cons, Sem.run_bind, run_sizeOf' k3, Result.andThen_ok, Sem.run_pure, h1]
    · intro j o' n' hj
      cases j with
      | zero =>
        simp only [plFs, List.map_cons, List.getElem?_cons_zero, ho] at hj
        simp at hj
        simp [k2, k4, hj]
      | succ j => exact h2 j o' n' (by simpa [plFs] using hj)
theorem build_run {g : Operand → AV} {ev : Operand → Value} {t : TypeId} {parts : Array (Nat × Operand)} (G : ∀ p ∈ parts.toList, RelA U w F β (g p.2) (ev p.2)) {φ : Prop} {x : AV} (he : buildAV P t (parts.toList.map fun p => (p.1, g p.2)) = some (φ, x)) :
    ∃ z, (Instr.build t (parts.map fun (i, x) => (i, ev x))).run P w = .ok z w ∧ RelA U w F β x z := by
  unfold buildAV at he
  split at he
  · rename_i fs _ _ _ z ht
    obtain ⟨i, u, h1, h2, h3⟩ := ty_some ht
    simp only [TD.mk.injEq] at h3
    obtain ⟨fs', rfl, rfl⟩ := kind_st h3.1.symm
    have hz := h3.2.2.2.2
    split at he
    · rename_i hc
      simp only [Bool.and_eq_true] at hc
      cases hiz : i.zero with
      | none => rw [hiz] at hz; simp [hz] at hc
      | some zv =>
        rw [hiz] at hz
        subst hz
        split at he
        · rename_i cs hf
          simp only [Option.some.injEq, Prod.mk.injEq] at he
          obtain ⟨_, rfl⟩ := he
          obtain ⟨pl, hpl, hpl2⟩ := places_run (P := P) w fs'.toList hc.1.1
          obtain ⟨us', e1, e2, e3⟩ := fill_run (place' := (pl.toArray[·]?)) (fun i q hq => by simpa using hpl2 i q.1 q.2 hq) _ (parts.map fun (i, x) => (i, ev x)).toList _ _ zv.cells hf (by simp) (parts_rel parts G) (zero_rel hc.1.2) (fun u hu => List.all_eq_true.1 hc.1.2 u hu)
          refine ⟨.agg us', ?_, by simp only [RelA]; exact ⟨_, rfl, e2, e3⟩⟩
          have hm : (fs'.mapM fun f => (do pure (f.offset, ← sizeOf f.type) : Sem (Nat × Nat))).run P w = .ok pl.toArray w := by
            rw [Array.mapM_eq_mapM_toList]
            simp only [Sem.run_map, hpl, Result.andThen_ok]
          simp only [Instr.build, Sem.run_bind, run_zero' h1 hiz, Result.andThen_ok, run_underlying h2, hm, e1, Sem.run_pure]
        · simp at he
    · simp at he
  · rename_i n e _ _ _ z ht
    obtain ⟨i, u, h1, h2, h3⟩ := ty_some ht
    simp only [TD.mk.injEq] at h3
    have := kind_arr h3.1.symm
    subst this
    have hz := h3.2.2.2.2
    split at he
    · rename_i d hd
      obtain ⟨j, de, e1, _, _, _, e5, _⟩ := ty_d hd
      split at he
      · rename_i hc
        simp only [Bool.and_eq_true] at hc
        cases hiz : i.zero with
        | none => rw [hiz] at hz; simp [hz] at hc
        | some zv =>
          rw [hiz] at hz
          subst hz
          split at he
          · rename_i cs hf
            simp only [Option.some.injEq, Prod.mk.injEq] at he
            obtain ⟨_, rfl⟩ := he
            obtain ⟨us', k1, k2, k3⟩ := fill_run (place' := fun i => some (i * d.size, d.size)) (fun i q hq => hq) _ (parts.map fun (i, x) => (i, ev x)).toList _ _ zv.cells hf (by simp) (parts_rel parts G) (zero_rel hc.1) (fun u hu => List.all_eq_true.1 hc.1 u hu)
            refine ⟨.agg us', ?_, by simp only [RelA]; exact ⟨_, rfl, k2, k3⟩⟩
            simp only [Instr.build, Sem.run_bind, run_zero' h1 hiz, Result.andThen_ok, run_underlying h2, run_sizeOf' e1, e5, k1, Sem.run_pure]
          · simp at he
      · simp at he
    · simp at he
  · simp at he
/-- Elements, one behind the other. -/
theorem chunks_at {α : Type} (sz : Nat) : ∀ (n : Nat) (l : List α), l.length = n * sz → ∀ i cs, (chunks sz n l)[i]? = some cs → cs.length = sz ∧ ∀ j, j < sz → cs[j]? = l[i * sz + j]?
  | 0, l, _, i, cs, h => by simp [chunks] at h
  | n + 1, l, hl, i, cs, h => by
    rw [Nat.add_mul] at hl
    cases i with
    | zero =>
      simp only [chunks, List.getElem?_cons_zero, Option.some.injEq] at h
      subst h
      refine ⟨by simp; omega, fun j hj => ?_⟩
      rw [List.getElem?_take, if_pos hj]; simp
    | succ i =>
      simp only [chunks, List.getElem?_cons_succ] at h
      obtain ⟨h1, h2⟩ := chunks_at sz n (l.drop sz) (by simp; omega) i cs h
      refine ⟨h1, fun j hj => ?_⟩
      rw [h2 j hj, List.getElem?_drop]
      congr 1
      rw [Nat.add_mul]; omega
theorem chunks_len {α : Type} (sz : Nat) : ∀ (n : Nat) (l : List α), (chunks sz n l).length = n
  | 0, _ => rfl
  | n + 1, l => by simp [chunks, chunks_len sz n]
theorem relE_chunks {w' : World} {F' : Nat → Prop} {b sz n : Nat} {ps : List PV} (hl : ps.length = n * sz) (h : ∀ j p, ps[j]? = some p → ∃ u, w'.cell? ⟨b, j, none⟩ = some u ∧ RelP w' F' p u) : RelE w' F' b sz 0 (chunks sz n ps) := by
  refine RelE.of fun i cs hi => ?_
  obtain ⟨h1, h2⟩ := chunks_at sz n ps hl i cs hi
  refine ⟨h1, RelC.of fun j x hx => ?_⟩
  have hj : j < sz := by rw [← h1]; exact (List.getElem?_eq_some_iff.1 hx).1
  obtain ⟨u, k1, k2⟩ := h (i * sz + j) x (by rw [← h2 j hj]; exact hx)
  exact ⟨u, by simpa using k1, k2⟩
theorem cell_new (w : World) (cs : Array Value) (t : TypeId) (j : Nat) : (w.alloc (.cells cs t)).cell? ⟨w.heap.size, j, none⟩ = cs[j]? := by
  unfold World.cell?
  simp only [heap_alloc_new]
  rfl
/-- What an operation has come to. -/
def nv : Next → Value
  | .value v => v
  | _ => undef
def isVal : Next → Bool
  | .value _ | .skip => true
  | _ => false
theorem blk_new (M : MemOk W N U F β h w) {m : Nat} (hm : ¬ U m) (t : TypeId) {cs : List AV} {vs : Array Value} (h1 : RelL U w F β cs vs.toList) (h2 : ∀ u ∈ vs.toList, u.oneCell' = true) :
    StepTo W N U F β h w m ⟨.ptr m 0 0, [(m, .blk t cs)], 1⟩ (.pointer (some ⟨w.heap.size, 0, none⟩)) (w.alloc (.cells vs t)) := by
  refine step_new M hm (.cells vs t) ⟨.pointer (some ⟨w.heap.size, 0, none⟩), some w.heap.size, 1, cs.length⟩ rfl (fun E => ?_) ?_
  · exact ⟨rfl, rfl, w.heap.size, vs, rfl, rfl, heap_alloc_new w _, RelL.mono E _ _ h1, h2⟩
  · simp only [RelA]
    refine ⟨.inr ⟨Nat.le_refl _, by omega⟩, rfl, fun bd hb => ?_⟩
    simp only [updB, if_true, Option.some.injEq] at hb
    subst hb
    exact ⟨_, rfl, by simp⟩
theorem row_new (M : MemOk W N U F β h w) {m : Nat} (hm : ¬ U m) (e sz cap : Nat) {xs : List (List PV)} {cur : Array Value} (hx : ∀ cs ∈ xs, cs.length = sz) (hl : xs.length ≤ cap) (hcap : cap ≤ maxLen) (hcur : cur.size = cap * sz)
    (hE : ∀ F', Keeps w F (w.alloc (.cells cur e)) F' → RelE (w.alloc (.cells cur e)) F' w.heap.size sz 0 xs) :
    StepTo W N U F β h w m ⟨.own m, [(m, .row e sz xs)], 1⟩ (.slice (some ⟨w.heap.size, 0, none⟩) xs.length cap) (w.alloc (.cells cur e)) := by
  refine step_new M hm (.cells cur e) ⟨.slice (some ⟨w.heap.size, 0, none⟩) xs.length cap, some w.heap.size, xs.length, sz⟩ rfl (fun E => ?_) ?_
  · exact ⟨rfl, rfl, hx, .inr ⟨w.heap.size, cap, cur, rfl, rfl, heap_alloc_new w _, hl, hcap, hcur, hE _ E.f⟩⟩
  · simp only [RelA]
    refine ⟨.inr ⟨Nat.le_refl _, by omega⟩, rfl, fun bd hb => ?_⟩
    simp only [updB, if_true, Option.some.injEq] at hb
    subst hb
    rfl
theorem zero_info {e : TypeId} {d : TD} (hd : ty P e = some d) (h1 : Nat.beq d.zero.length d.size = true) (h2 : Nat.ble 1 d.size = true) : ∃ i z, P.info? e = some i ∧ i.zero = some z ∧ z.cells.toList = d.zero ∧ i.size = d.size ∧ i.bytes = d.bytes ∧ z.cells.size = d.size ∧ 0 < d.size := by
  obtain ⟨i, u, k1, k2, rfl⟩ := ty_some hd
  have e1 := Nat.eq_of_beq_eq_true h1
  have e2 := Nat.le_of_ble_eq_true h2
  simp only at e1 e2 ⊢
  cases hz : i.zero with
  | none => rw [hz] at e1; simp at e1; omega
  | some z =>
    rw [hz] at e1
    exact ⟨i, z, k1, hz, rfl, rfl, rfl, by simpa using e1, by omega⟩
theorem make_run (M : MemOk W N U F β h w) {m : Nat} (hm : ¬ U m) {t : TypeId} {same : Bool} {l c : AV} {φ : Prop} {x : Eff} (he : makeAV P m t same l c = some (φ, x)) (hφ : φ) {lv cv : Value} (hl : RelA U w F β l lv) (hc : RelA U w F β c cv) :
    ∃ z w', (Instr.makeSlice t lv cv).run P w = .ok z w' ∧ StepTo W N U F β h w m x z w' := by
  unfold makeAV at he
  split at he
  · rename_i e _ _ _ _ k a k' b ht
    obtain ⟨rfl, _⟩ := relC.1 hl
    obtain ⟨rfl, _⟩ := relC.1 hc
    obtain ⟨_, _, _, q2, q3, _⟩ := ty_kind ht
    have := kind_sl q3
    subst this
    split at he
    · rename_i d hd
      split at he
      · rename_i hcd
        simp only [Bool.and_eq_true] at hcd
        obtain ⟨i, z, k1, k2, k3, k4, k5, k6, k7⟩ := zero_info hd hcd.1.1 hcd.1.2
        have main : 0 ≤ a → a ≤ b → (d.bytes : Int) * b ≤ 140737488355328 → b ≤ 140737488355328 → ∀ xs : List (List PV), xs.length = a.toNat → xs = List.replicate a.toNat (d.zero.map .v) →
            ∃ z w', (Instr.makeSlice t (.int k a) (.int k' b)).run P w = .ok z w' ∧ StepTo W N U F β h w m ⟨.own m, [(m, .row e d.size xs)], 1⟩ z w' := by
          intro h0 hab hby hb xs hxl hxs
          have hr := run_make (P := P) w t e i z q2 k1 k2 k k' a b h0 hab (by rw [k5]; omega) (by omega)
          refine ⟨_, _, hr, ?_⟩
          have := row_new M hm e d.size b.toNat (xs := xs) (cur := madeCells z.cells (b.toNat * i.size)) (by
            intro cs hcs
            rw [hxs] at hcs
            obtain ⟨_, rfl⟩ := List.mem_replicate.1 hcs
            simpa using Nat.eq_of_beq_eq_true hcd.1.1) (by omega) (by unfold maxLen; omega) (by rw [size_madeCells, k4]) (fun F' _ => RelE.of fun j cs hj => ?_)
          · rw [hxl] at this; exact this
          · rw [hxs] at hj
            have hj2 : j < a.toNat := by have := (List.getElem?_eq_some_iff.1 hj).1; simpa using this
            rw [List.getElem?_replicate, if_pos hj2, Option.some.injEq] at hj
            subst hj
            refine ⟨by simpa using Nat.eq_of_beq_eq_true hcd.1.1, RelC.of fun q p hq => ?_⟩
            rw [List.getElem?_map] at hq
            cases hz : d.zero[q]? with
            | none => rw [hz] at hq; simp at hq
            | some u =>
              rw [hz] at hq
              simp only [Option.map_some, Option.some.injEq] at hq
              subst hq
              have hqs : q < d.size := by have := (List.getElem?_eq_some_iff.1 hz).1; have e1 := Nat.eq_of_beq_eq_true hcd.1.1; omega
              refine ⟨u, ?_, by unfold RelP; exact ⟨rfl, List.all_eq_true.1 hcd.2 u (List.mem_of_getElem? hz)⟩⟩
              rw [cell_new]
              have hlt : 0 + j * d.size + q < b.toNat * i.size := by
                rw [k4]
                have : (j + 1) * d.size ≤ b.toNat * d.size := Nat.mul_le_mul_right _ (by omega)
                rw [Nat.add_mul] at this
                omega
              have hmod : (0 + j * d.size + q) % z.cells.size = q := by
                rw [k6, Nat.zero_add, Nat.mul_comm, Nat.mul_add_mod]
                exact Nat.mod_eq_of_lt hqs
              have hzu : z.cells[q]? = some u := by rw [← k3] at hz; simpa using hz
              have hzq : z.cells[q]! = u := by simp [getElem!_def, hzu]
              unfold madeCells
              rw [Array.getElem?_map, Array.getElem?_range, if_pos hlt]
              simp only [Option.map_some, Option.some.injEq]
              rw [hmod, hzq]
        split at he
        · simp only [Option.some.injEq, Prod.mk.injEq] at he
          obtain ⟨rfl, rfl⟩ := he
          obtain ⟨rfl, h0, h1, h2⟩ := hφ
          exact main h0 (Int.le_refl _) h1 h2 _ (by simp) rfl
        · simp only [Option.some.injEq, Prod.mk.injEq] at he
          obtain ⟨rfl, rfl⟩ := he
          obtain ⟨rfl, h0, h1, h2⟩ := hφ
          exact main (Int.le_refl _) h0 h1 h2 _ (by simp) (by simp)
      · simp at he
    · simp at he
  · simp at he
theorem sliceLit_run (M : MemOk W N U F β h w) {m : Nat} (hm : ¬ U m) {g : Operand → AV} {ev : Operand → Value} {t : TypeId} {len : Nat} {parts : Array (Nat × Operand)} (G : ∀ p ∈ parts.toList, RelA U w F β (g p.2) (ev p.2)) {φ : Prop} {x : Eff}
    (he : sliceLitAV P m t len (parts.toList.map fun p => (p.1, g p.2)) = some (φ, x)) : ∃ z w', (Instr.buildSlice t len (parts.map fun (i, x) => (i, ev x))).run P w = .ok z w' ∧ StepTo W N U F β h w m x z w' := by
  unfold sliceLitAV at he
  split at he
  · rename_i e _ _ _ _ ht
    obtain ⟨_, _, _, q2, q3, _⟩ := ty_kind ht
    have := kind_sl q3
    subst this
    split at he
    · rename_i d hd
      split at he
      · rename_i hcd
        simp only [Bool.and_eq_true] at hcd
        obtain ⟨i, z, k1, k2, k3, k4, k5, k6, k7⟩ := zero_info hd hcd.1.1.1 hcd.1.1.2
        split at he
        · rename_i cs hf
          split at he
          · rename_i ps hps
            simp only [Option.some.injEq, Prod.mk.injEq] at he
            obtain ⟨_, rfl⟩ := he
            have hle := Nat.le_of_ble_eq_true hcd.2
            obtain ⟨zz, hzz, hz0⟩ : ∃ zz : Array Value, ((len * i.size = 0 ∧ zz = #[]) ∨ (¬ len * i.size = 0 ∧ zz = z.cells)) ∧ ∀ u ∈ ((Array.range (len * i.size)).map (zz[· % zz.size]!)).toList, u.oneCell' = true := by
              by_cases h0 : len * i.size = 0
              · exact ⟨#[], .inl ⟨h0, rfl⟩, by rw [h0]; simp⟩
              · refine ⟨z.cells, .inr ⟨h0, rfl⟩, ?_⟩
                intro u hu
                simp only [Array.toList_map, List.mem_map] at hu
                obtain ⟨j, hj, rfl⟩ := hu
                have hlt : j % z.cells.size < z.cells.size := Nat.mod_lt _ (by omega)
                have e1 : z.cells[j % z.cells.size]! = z.cells[j % z.cells.size] := by simp [hlt]
                rw [e1]
                exact List.all_eq_true.1 hcd.1.2 _ (by rw [← k3]; simp)
            generalize hus0 : (Array.range (len * i.size)).map (zz[· % zz.size]!) = us0 at hz0
            have hs0 : us0.size = len * d.size := by rw [← hus0, ← k4]; simp
            have hb : RelL U w F β (List.replicate (len * d.size) (.c .undef)) us0.toList := by
              refine RelL.of (by simp [hs0]) fun j x u hx hu => ?_
              have := List.eq_of_mem_replicate (List.mem_of_getElem? hx)
              subst this
              simp only [RelA, RelP]
              exact hz0 u (List.mem_of_getElem? hu)
            obtain ⟨us', e1, e2, e3⟩ := fill_run (place' := fun i => some (i * d.size, d.size)) (fun i q hq => hq) _ (parts.map fun (i, x) => (i, ev x)).toList _ _ us0 hf (by simp) (parts_rel parts G) hb hz0
            have hcs := toPVs_run hps
            subst hcs
            have hpl : ps.length = len * d.size := by
              have l1 := e2.len
              have l2 : ∀ (r : List (Nat × AV)) (place : Nat → Option (Nat × Nat)) (a b : List AV), fillA place a r = some b → b.length = a.length := by
                intro r place
                induction r with
                | nil => intro a b h; simp only [fillA, Option.some.injEq] at h; subst h; rfl
                | cons p r ih =>
                  intro a b h
                  unfold fillA at h
                  split at h
                  · split at h
                    · rename_i hc
                      simp only [Bool.and_eq_true] at hc
                      have n1 := Nat.eq_of_beq_eq_true hc.1
                      have n2 := Nat.le_of_ble_eq_true hc.2
                      rw [ih _ _ h, splice_len _ _ _ (by omega)]
                    · simp at h
                  · simp at h
              have := l2 _ _ _ _ hf
              simpa using this
            have hus : us'.size = len * d.size := by have := e2.len; simpa [hpl] using this
            have := row_new M hm e d.size len (xs := chunks d.size len ps) (cur := us') (by
              intro cs hcs
              obtain ⟨j, hj⟩ := List.getElem?_of_mem hcs
              exact (chunks_at _ _ _ hpl j cs hj).1) (by rw [chunks_len]; exact Nat.le_refl _) (by
                have h1 : len * 1 ≤ len * d.size := Nat.mul_le_mul_left _ k7
                unfold maxLen; omega) hus (fun F' K => relE_chunks hpl fun j p hp => ?_)
            · rw [chunks_len] at this
              refine ⟨_, _, ?_, this⟩
              have hnot : ¬ (len * i.size > 2 ^ 24) := by rw [k4]; omega
              rw [k4] at hzz hus0 hnot
              rcases hzz with ⟨h0, rfl⟩ | ⟨h0, rfl⟩
              · simp only [Instr.buildSlice, Sem.run_bind, run_underlying q2, Result.andThen_ok, run_sizeOf' k1, k4, Sem.run_ite, if_neg hnot, if_pos h0, Sem.run_pure, hus0, e1]
                rfl
              · simp only [Instr.buildSlice, Sem.run_bind, run_underlying q2, Result.andThen_ok, run_sizeOf' k1, k4, Sem.run_ite, if_neg hnot, if_neg h0, run_zero' k1 k2, Sem.run_pure, hus0, e1]
                rfl
            · obtain ⟨u, k8, k9⟩ := relL_map e2 j p hp
              refine ⟨u, ?_, RelP.mono K p u k9⟩
              rw [cell_new]
              simpa using k8
          · simp at he
        · simp at he
      · simp at he
    · simp at he
  · simp at he
theorem setRow_grown (w : World) (g : Nat) (cs : Array Value) : (w.setRow g cs).os = w.os ∧ (w.setRow g cs).tape = w.tape ∧ (w.setRow g cs).output = w.output ∧ (w.setRow g cs).heap.size = w.heap.size ∧ ∀ b, b ≠ g → (w.setRow g cs).heap[b]? = w.heap[b]? :=
  ⟨rfl, rfl, rfl, setRow_size w g cs, fun b hb => setRow_other w g b cs hb⟩
theorem store_run (M : MemOk W N U F β h w) (hs : ∀ id, hT id ≠ .dead → hT id = h id) (m : Nat) {t : TypeId} {p x : AV} {φ : Prop} {r : Eff} (he : storeAV P hT t p x = some (φ, r)) (hφ : φ) {pv xv : Value} (hp : RelA U w F β p pv) (hx : RelA U w F β x xv) :
    ∃ w', (Instr.storeAt t pv xv).run P w = .ok () w' ∧ StepTo W N U F β h w m r undef w' := by
  unfold storeAV at he
  split at he
  · rename_i d cs id i o hd hcs
    obtain ⟨k1, k2⟩ := cellsOf_run hcs hx
    obtain ⟨j, de, e1, e2, e3, e4, e5, _⟩ := ty_d hd
    split at he
    · rename_i hlen
      have hl := Nat.eq_of_beq_eq_true hlen
      have hcl : xv.cells.size = d.size := by have := k1.len; simpa [hl] using this
      have main : ∀ {g o' : Nat} {cur : Array Value} {T : TypeId}, w.heap[g]? = some (.cells cur T (0, 0)) → o' + d.size ≤ cur.size →
          (Instr.storeAt t (.pointer (some ⟨g, o', none⟩)) xv).run P w = .ok () (w.setRow g (splice cur.toList o' xv.cells.toList).toArray) := by
        intro g o' cur T hg hle
        have := run_storeCells_at P g o' T xv.cells.toList 0 cur w hg (by simp [hcl]; omega) k2
        simp only [Instr.storeAt, Instr.sureAddr, storeVar, Sem.run_bind, Sem.run_pure, Result.andThen_ok, run_sizeOf' e1, hcl, e5, ne_eq, not_true_eq_false, if_false, Sem.run_ite]
        simpa [splice] using this
      split at he
      · rename_i e sz xs hc
        obtain ⟨bd, hb, h1, h2, h3, h4⟩ := M.get hs hc (by simp)
        simp only [RelA] at hp
        obtain ⟨g, hg, rfl⟩ := hp.2.2 bd hb
        split at he
        · rename_i ps hps
          have hpe := toPVs_run hps
          subst hpe
          have hpl : ps.length = d.size := by simpa using hl
          rcases h4 with ⟨h5, _⟩ | ⟨g', cap, cur, h5, h6, h7, h8, h9, h10, hE⟩
          · rw [hg] at h5; simp at h5
          rw [hg] at h5
          cases h5
          have fin : o + d.size ≤ sz → i < xs.length → StepTo W N U F β h w m ⟨.undef, [(id, .row e sz (xs.set i (splice (xs.getD i []) o ps)))], 0⟩ undef (w.setRow g (splice cur.toList (i * sz + o) xv.cells.toList).toArray) ∧ i * sz + o + d.size ≤ cur.size := by
            intro hle hi
            have hsz : i * sz + sz ≤ xs.length * sz := by rw [← Nat.succ_mul]; exact Nat.mul_le_mul_right _ hi
            have hsz2 : xs.length * sz ≤ cap * sz := Nat.mul_le_mul_right _ h8
            have hfit : i * sz + o + d.size ≤ cur.size := by rw [h10]; omega
            refine ⟨?_, hfit⟩
            obtain ⟨s1, s2, s3, s4, s5⟩ := setRow_grown w g (splice cur.toList (i * sz + o) xv.cells.toList).toArray
            have hheap := setRow_heap w g cur (splice cur.toList (i * sz + o) xv.cells.toList).toArray e (0, 0) h7
            have hxi : xs.getD i [] = xs[i] := by simp [hi]
            have hxl : xs[i].length = sz := h3 _ (List.getElem_mem hi)
            refine step_set M m hb hg s1 s2 s3 s4 s5 (fun E => ?_) undef
            refine ⟨h1, by simp [h2], ?_, .inr ⟨g, cap, _, hg, by simpa using h6, hheap, by simpa using h8, h9, ?_, ?_⟩⟩
            · intro cs hcs
              rcases List.mem_or_eq_of_mem_set hcs with hm | rfl
              · exact h3 cs hm
              · rw [splice_len _ _ _ (by rw [hxi, hxl]; omega), hxi, hxl]
            · simp only [List.size_toArray]
              rw [splice_len _ _ _ (by simp [hcl]; omega)]
              simpa using h10
            · refine RelE.of fun q cs hq => ?_
              have hcell : ∀ c, (w.setRow g (splice cur.toList (i * sz + o) xv.cells.toList).toArray).cell? ⟨g, c, none⟩ = if i * sz + o ≤ c ∧ c < i * sz + o + d.size then xv.cells[c - (i * sz + o)]? else w.cell? ⟨g, c, none⟩ := by
                intro c
                have e0 : w.cell? ⟨g, c, none⟩ = cur[c]? := by simp [World.cell?, h7]
                rw [e0]
                simp only [World.cell?, hheap, Option.isSome_none, Bool.false_eq_true, if_false]
                have := splice_get cur.toList (i * sz + o) xv.cells.toList (by simp [hcl]; omega) c
                simp only [Array.length_toList, hcl, Array.getElem?_toList] at this
                simpa using this
              rw [List.getElem?_set] at hq
              by_cases hqi : i = q
              · subst hqi
                simp only [if_true, hi, Option.some.injEq] at hq
                subst hq
                obtain ⟨_, hC⟩ := hE.at i xs[i] (by simp [hi])
                refine ⟨by rw [splice_len _ _ _ (by rw [hxi, hxl]; omega), hxi, hxl], RelC.of fun c y hy => ?_⟩
                rw [splice_get _ _ _ (by rw [hxi, hxl]; omega)] at hy
                rw [hcell]
                split at hy
                · rename_i hr
                  rw [if_pos (by omega)]
                  obtain ⟨u, hu1, hu2⟩ := relL_map k1 (c - o) y hy
                  refine ⟨u, ?_, RelP.mono E.f y u hu2⟩
                  rw [show 0 + i * sz + c - (i * sz + o) = c - o from by omega]
                  simpa using hu1
                · rename_i hr
                  have hcs : c < sz := by rw [hxi] at hy; have := (List.getElem?_eq_some_iff.1 hy).1; omega
                  rw [if_neg (by omega)]
                  rw [hxi] at hy
                  obtain ⟨u, hu1, hu2⟩ := hC.at c y hy
                  exact ⟨u, hu1, RelP.mono E.f y u hu2⟩
              · rw [if_neg hqi] at hq
                obtain ⟨hl2, hC⟩ := hE.at q cs hq
                refine ⟨hl2, RelC.of fun c y hy => ?_⟩
                have hcs : c < sz := by rw [← hl2]; exact (List.getElem?_eq_some_iff.1 hy).1
                rw [hcell, if_neg (by
                  rcases Nat.lt_or_gt_of_ne hqi with hlt | hgt
                  · have : (i + 1) * sz ≤ q * sz := Nat.mul_le_mul_right _ hlt
                    rw [Nat.add_mul] at this; omega
                  · have : (q + 1) * sz ≤ i * sz := Nat.mul_le_mul_right _ hgt
                    rw [Nat.add_mul] at this; omega)]
                obtain ⟨u, hu1, hu2⟩ := hC.at c y hy
                exact ⟨u, hu1, RelP.mono E.f y u hu2⟩
          split at he
          · rename_i ho
            simp only [Bool.and_eq_true] at ho
            have ho0 := Nat.eq_of_beq_eq_true ho.1
            have hds := Nat.eq_of_beq_eq_true ho.2
            simp only [Option.some.injEq, Prod.mk.injEq] at he
            obtain ⟨rfl, rfl⟩ := he
            subst ho0
            obtain ⟨f1, f2⟩ := fin (by omega) hφ
            have hi : i < xs.length := hφ
            have hxl : (xs.getD i []).length = sz := by
              have e1 : xs.getD i [] = xs[i] := by simp [hi]
              rw [e1]; exact h3 _ (List.getElem_mem hi)
            have hsp : splice (xs.getD i []) 0 ps = ps := by
              unfold splice
              rw [List.take_zero, List.nil_append, Nat.zero_add, List.drop_eq_nil_of_le (by omega), List.append_nil]
            rw [hsp] at f1
            exact ⟨_, main (o' := i * bd.sz + 0) h7 (by rw [h1]; exact f2), by rw [h1]; exact f1⟩
          · split at he
            · rename_i hle
              simp only [Option.some.injEq, Prod.mk.injEq] at he
              obtain ⟨rfl, rfl⟩ := he
              obtain ⟨f1, f2⟩ := fin (Nat.le_of_ble_eq_true hle) hφ
              exact ⟨_, main (o' := i * bd.sz + o) h7 (by rw [h1]; exact f2), by rw [h1]; exact f1⟩
            · simp at he
        · simp at he
      · rename_i t' bs hc
        split at he
        · rename_i hle
          have hle := Nat.le_of_ble_eq_true hle
          simp only [Option.some.injEq, Prod.mk.injEq] at he
          obtain ⟨rfl, rfl⟩ := he
          subst hφ
          obtain ⟨bd, hb, h1, h2, g, vs, h3, h4, h5, h6, h7⟩ := M.get hs hc (by simp)
          simp only [RelA] at hp
          obtain ⟨g', hg, rfl⟩ := hp.2.2 bd hb
          rw [h3] at hg
          cases hg
          have hvl : vs.size = bs.length := by simpa using h6.len
          simp only [Nat.zero_mul, Nat.zero_add]
          refine ⟨_, main h5 (by omega), ?_⟩
          obtain ⟨s1, s2, s3, s4, s5⟩ := setRow_grown w g (splice vs.toList o xv.cells.toList).toArray
          refine step_set M m hb h3 s1 s2 s3 s4 s5 (fun E => ?_) undef
          refine ⟨by rw [splice_len _ _ _ (by omega)]; exact h1, h2, g, _, h3, h4, setRow_heap w g vs _ t' (0, 0) h5, ?_, ?_⟩
          · exact RelL.mono E _ _ (relL_splice h6 k1 o)
          · intro u hu
            simp only [splice] at hu
            rcases List.mem_append.1 hu with hu | hu
            · exact h7 u (List.mem_of_mem_take hu)
            · rcases List.mem_append.1 hu with hu | hu
              · exact k2 u hu
              · exact h7 u (List.mem_of_mem_drop hu)
        · simp at he
      · simp at he
    · simp at he
  · simp at he
end
end Go.Proofs.Ytibknlfadoeglaa
