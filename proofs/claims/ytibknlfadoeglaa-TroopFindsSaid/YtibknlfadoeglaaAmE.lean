/- The abstract machine, part E: whatever writes nothing, the rest. -/
import Derived.Test.YtibknlfadoeglaaAmD
namespace Go.Proofs.Ytibknlfadoeglaa
set_option linter.all false
open Go.RowKit
section
variable {P : Program} {W : World} {N U F : Nat → Prop} {β : Nat → Option Bind} {h hT : Nat → Chunk} {w : World}
theorem ty_kind {t : TypeId} {k : TK} {a : Bool} {s b : Nat} {z : List Value} (h : ty P t = some ⟨k, a, s, b, z⟩) : ∃ i u, P.info? t = some i ∧ P.underlying t = some u ∧ kindOf P u = k ∧ aggD u = a ∧ i.size = s ∧ i.bytes = b := by
  obtain ⟨i, u, h1, h2, h3⟩ := ty_some h
  simp only [TD.mk.injEq] at h3
  exact ⟨i, u, h1, h2, h3.1.symm, h3.2.1.symm, h3.2.2.1.symm, h3.2.2.2.1.symm⟩
theorem ty_d {t : TypeId} {d : TD} (h : ty P t = some d) : ∃ i u, P.info? t = some i ∧ P.underlying t = some u ∧ kindOf P u = d.k ∧ aggD u = d.agg ∧ i.size = d.size ∧ i.bytes = d.bytes := by
  obtain ⟨i, u, h1, h2, rfl⟩ := ty_some h
  exact ⟨i, u, h1, h2, rfl, rfl, rfl, rfl⟩
theorem kind_st {u : TypeDesc} {l : List (Option (Nat × Nat × Bool))} (h : kindOf P u = .st l) : ∃ fs, u = .struct fs ∧ l = fs.toList.map (fieldTD P) := by
  cases u <;> simp [kindOf] at h
  exact ⟨_, rfl, h.symm⟩
theorem kind_sl {u : TypeDesc} {e : TypeId} (h : kindOf P u = .sl e) : u = .slice e := by
  cases u <;> simp [kindOf] at h
  subst h; rfl
theorem kind_arr {u : TypeDesc} {n : Nat} {e : TypeId} (h : kindOf P u = .arr n e) : u = .array n e := by
  cases u <;> simp [kindOf] at h
  obtain ⟨rfl, rfl⟩ := h; rfl
theorem kind_str {u : TypeDesc} (h : kindOf P u = .str) : u = .string := by
  cases u <;> simp [kindOf] at h
  rfl
theorem kind_int {u : TypeDesc} {k : IntKind} (h : kindOf P u = .int k) : u = .int k := by
  cases u <;> simp [kindOf] at h
  subst h; rfl
theorem field_some {fs : Array Field} {f o n : Nat} {a : Bool} (h : (fs.toList.map (fieldTD P))[f]? = some (some (o, n, a))) : ∃ fd i d, fs[f]? = some fd ∧ fd.offset = o ∧ P.info? fd.type = some i ∧ i.size = n ∧ P.underlying fd.type = some d ∧ aggD d = a := by
  rw [List.getElem?_map] at h
  cases hf : fs.toList[f]? with
  | none => rw [hf] at h; simp at h
  | some fd =>
    rw [hf] at h
    simp only [Option.map_some, Option.some.injEq] at h
    unfold fieldTD at h
    split at h
    · rename_i i d h1 h2
      simp only [Option.some.injEq, Prod.mk.injEq] at h
      exact ⟨fd, i, d, by simpa using hf, h.1, h1, h.2.1, h2, h.2.2⟩
    · simp at h
theorem addO_run (M : MemOk W N U F β h w) (hs : ∀ id, hT id ≠ .dead → hT id = h id) {p q : AV} {n : Nat} (he : addO hT p n = some q) {v : Value} (hv : RelA U w F β p v) : ∃ b o, v = .pointer (some ⟨b, o, none⟩) ∧ RelA U w F β q (.pointer (some ⟨b, o + n, none⟩)) := by
  unfold addO at he
  split at he
  · rename_i id i o
    split at he
    · simp at he
    · rename_i hc
      simp only [Option.some.injEq] at he
      subst he
      obtain ⟨bd, hb, _⟩ := M.get hs (id := id) rfl hc
      simp only [RelA] at hv
      obtain ⟨g, hg, rfl⟩ := hv.2.2 bd hb
      refine ⟨_, _, rfl, ?_⟩
      simp only [RelA]
      refine ⟨hv.1, rfl, fun bd' hb' => ?_⟩
      rw [hb] at hb'; cases hb'
      exact ⟨g, hg, by rw [Nat.add_assoc]⟩
  · simp only [Option.some.injEq] at he
    subst he
    simp only [RelA] at hv
    obtain ⟨b, p, rfl, hb, hE⟩ := hv
    refine ⟨_, _, rfl, ?_⟩
    simp only [RelA]
    exact ⟨b, p, by rw [Nat.add_assoc], hb, hE⟩
  · simp at he
theorem fieldAddr_run (M : MemOk W N U F β h w) (hs : ∀ id, hT id ≠ .dead → hT id = h id) {s : TypeId} {p x : AV} {f : Nat} {φ : Prop} (he : fieldAddrAV P hT s p f = some (φ, x)) {v : Value} (hv : RelA U w F β p v) :
    ∃ z, (Instr.fieldAt s v f).run P w = .ok z w ∧ RelA U w F β x z := by
  unfold fieldAddrAV at he
  split at he
  · rename_i fs _ _ _ _ ht
    obtain ⟨i, u, h1, h2, h3, _⟩ := ty_kind ht
    obtain ⟨fs', rfl, rfl⟩ := kind_st h3
    split at he
    · rename_i o n a hf
      split at he
      · simp at he
      · rename_i hn
        split at he
        · rename_i q hq
          simp only [Option.some.injEq, Prod.mk.injEq] at he
          obtain ⟨_, rfl⟩ := he
          obtain ⟨fd, j, d, k1, k2, k3, k4, _⟩ := field_some hf
          obtain ⟨b, o', rfl, hr⟩ := addO_run M hs hq hv
          refine ⟨_, ?_, hr⟩
          subst k2 k4
          simp [Instr.fieldAt, run_underlying h2, k1, Instr.sureAddr, fieldPlace, run_sizeOf' k3, hn, Addr.add_lit]
        · simp at he
    · simp at he
  · simp at he
theorem part_run {t : TypeId} {i : TypeInfo} {d : TypeDesc} (h1 : P.info? t = some i) (h2 : P.underlying t = some d) {a : Bool} (ha : aggD d = a) {o n : Nat} (hn : i.size = n) {cs : List AV} {y : AV} (he : partAV a o n cs = some y) {vs : Array Value} (hv : RelL U w F β cs vs.toList) (h1c : ∀ x ∈ vs.toList, x.oneCell' = true) :
    ∃ z, (part t vs o).run P w = .ok z w ∧ RelA U w F β y z := by
  unfold partAV at he
  subst ha hn
  split at he
  · rename_i hag
    simp only [Option.some.injEq] at he
    subst he
    refine ⟨.agg (vs.extract o (o + i.size)), by simp [part, run_isAgg' h2, hag, run_sizeOf' h1], ?_⟩
    simp only [RelA]
    refine ⟨_, rfl, ?_, ?_⟩
    · have := (hv.drop o).take i.size
      rw [Array.toList_extract]
      simpa [List.extract_eq_take_drop] using this
    · intro x hx
      rw [Array.toList_extract, List.extract_eq_take_drop] at hx
      exact h1c x (List.mem_of_mem_drop (List.mem_of_mem_take hx))
  · rename_i hag
    obtain ⟨u, hu, hr⟩ := hv.at o y he
    simp only [Bool.not_eq_true] at hag
    have hu' : vs[o]? = some u := by simpa using hu
    exact ⟨u, by simp [part, run_isAgg' h2, hag, hu'], hr⟩
theorem field_run {s : TypeId} {y x : AV} {f : Nat} {φ : Prop} (he : fieldAV P s y f = some (φ, x)) {v : Value} (hv : RelA U w F β y v) :
    ∃ z, (Instr.field s v f).run P w = .ok z w ∧ RelA U w F β x z := by
  unfold fieldAV at he
  split at he
  · rename_i fs _ _ _ _ cs ht
    obtain ⟨i, u, h1, h2, h3, _⟩ := ty_kind ht
    obtain ⟨fs', rfl, rfl⟩ := kind_st h3
    split at he
    · rename_i o n a hf
      split at he
      · rename_i q hq
        simp only [Option.some.injEq, Prod.mk.injEq] at he
        obtain ⟨_, rfl⟩ := he
        obtain ⟨fd, j, d, k1, k2, k3, k4, k5, k6⟩ := field_some hf
        simp only [RelA] at hv
        obtain ⟨vs, rfl, hr, hone⟩ := hv
        obtain ⟨z, hz, hrz⟩ := part_run k3 k5 k6 k4 hq hr hone
        refine ⟨z, ?_, hrz⟩
        subst k2
        simp [Instr.field, run_underlying h2, k1, asAgg, hz]
      · simp at he
    · simp at he
  · simp at he
/-- The elements of a slice that is only read, where they lie. -/
theorem slOf_run (M : MemOk W N U F β h w) (hs : ∀ id, hT id ≠ .dead → hT id = h id) {x : AV} {sz : Nat} {xs : List (List PV)} (he : slOf hT x = some (sz, xs)) {v : Value} (hv : RelA U w F β x v) :
    ∃ a c, v = .slice a xs.length c ∧ xs.length ≤ c ∧ c ≤ maxLen ∧ (xs = [] ∨ ∃ b o, a = some ⟨b, o, none⟩ ∧ RelE w F b sz o xs) := by
  unfold slOf at he
  split at he
  · simp only [Option.some.injEq, Prod.mk.injEq] at he
    obtain ⟨rfl, rfl⟩ := he
    simp only [RelA, RelP] at hv
    obtain ⟨a, c, rfl, h1, h2, h3⟩ := hv
    refine ⟨a, c, rfl, h1, h2, ?_⟩
    rcases h3 with h3 | ⟨b, o, h3, _, h4⟩
    · exact .inl h3
    · exact .inr ⟨b, o, h3, h4⟩
  · simp only [Option.some.injEq, Prod.mk.injEq] at he
    obtain ⟨rfl, rfl⟩ := he
    obtain ⟨rfl, _⟩ := relC.1 hv
    exact ⟨none, 0, rfl, Nat.le_refl _, Nat.zero_le _, .inl rfl⟩
  · split at he
    · rename_i hc
      simp only [Option.some.injEq, Prod.mk.injEq] at he
      obtain ⟨rfl, rfl⟩ := he
      obtain ⟨bd, hb, h1, h2, h3, h4⟩ := M.get hs hc (by simp)
      simp only [RelA] at hv
      rw [hv.2.2 bd hb]
      rcases h4 with ⟨_, rfl, h6⟩ | ⟨g, cap, cur, _, h6, _, h8, h9, _, hE⟩
      · exact ⟨none, 0, h6, Nat.le_refl _, Nat.zero_le _, .inl rfl⟩
      · exact ⟨_, cap, h6, h8, h9, .inr ⟨g, 0, rfl, hE⟩⟩
    · simp at he
  · rename_i id o l
    split at he
    · rename_i e sz' ys hc
      simp only [Option.some.injEq, Prod.mk.injEq] at he
      obtain ⟨rfl, rfl⟩ := he
      obtain ⟨bd, hb, h1, h2, h3, h4⟩ := M.get hs hc (by simp)
      simp only [RelA] at hv
      obtain ⟨a, c, rfl, k1, k2, k3, k4, _⟩ := hv.2.2 bd hb
      have hl : ((ys.drop o).take l).length = l := by simp; omega
      refine ⟨a, c, by rw [hl], by omega, k3, ?_⟩
      rcases k4 with rfl | ⟨g, k5, k6⟩
      · exact .inl (by simp)
      · rcases h4 with ⟨h5, _⟩ | ⟨g', cap, cur, h5, h6, _, h8, h9, _, hE⟩
        · rw [k5] at h5; simp at h5
        · rw [k5] at h5; cases h5
          refine .inr ⟨g, _, k6, RelE.of fun i cs hi => ?_⟩
          rw [List.getElem?_take] at hi
          split at hi
          · rw [List.getElem?_drop] at hi
            have := hE.at _ _ hi
            rw [h1, ← Nat.add_mul]
            simpa using this
          · simp at hi
    · simp at he
  · simp at he
theorem indexAddr_run (M : MemOk W N U F β h w) (hs : ∀ id, hT id ≠ .dead → hT id = h id) {t : TypeId} {y i x : AV} {φ : Prop} (he : indexAddrAV P hT t y i = some (φ, x)) (hφ : φ) {v u : Value} (hv : RelA U w F β y v) (hi : RelA U w F β i u) :
    ∃ z, (Instr.indexAt t v u).run P w = .ok z w ∧ RelA U w F β x z := by
  unfold indexAddrAV at he
  split at he
  · rename_i k n
    obtain ⟨rfl, _⟩ := relC.1 hi
    split at he
    · rename_i e _ _ _ _ ht
      obtain ⟨_, _, _, h2, h3, _⟩ := ty_kind ht
      have := kind_sl h3
      subst this
      split at he
      · rename_i d hd
        obtain ⟨j, de, e1, e2, e3, e4, e5, _⟩ := ty_d hd
        have run : ∀ (a : Addr) (l c : Nat), 0 ≤ n → n < l → (Instr.indexAt t (.slice (some a) l c) (.int k n)).run P w = .ok (.pointer (some (a.add (n.toNat * d.size)))) w := by
          intro a l c h0 h1
          simp [Instr.indexAt, asIntOf, run_underlying h2, h0, h1, run_sizeOf' e1, e5]
        split at he
        · rename_i sz xs
          simp only [Option.some.injEq, Prod.mk.injEq] at he
          obtain ⟨rfl, rfl⟩ := he
          obtain ⟨p1, p2, p3⟩ := hφ
          simp only [RelA, RelP] at hv
          obtain ⟨a, c, rfl, q1, q2, q3⟩ := hv
          rcases q3 with rfl | ⟨b, o, rfl, hb, hE⟩
          · simp at p3; omega
          · refine ⟨_, run _ _ _ p2 p3, ?_⟩
            simp only [RelA]
            exact ⟨b, o, by rw [Addr.add_lit, p1, Nat.add_zero], hb, hE⟩
        · rename_i id
          split at he
          · rename_i e' sz xs hc
            simp only [Option.some.injEq, Prod.mk.injEq] at he
            obtain ⟨rfl, rfl⟩ := he
            obtain ⟨p1, p2, p3⟩ := hφ
            obtain ⟨bd, hb, q1, q2, q3, q4⟩ := M.get hs hc (by simp)
            simp only [RelA] at hv
            rw [hv.2.2 bd hb]
            rcases q4 with ⟨_, rfl, _⟩ | ⟨g, cap, cur, q5, q6, _⟩
            · simp at p3; omega
            · rw [q6]
              refine ⟨_, run _ _ _ p2 p3, ?_⟩
              simp only [RelA]
              refine ⟨hv.1, rfl, fun bd' hb' => ?_⟩
              rw [hb] at hb'; cases hb'
              exact ⟨g, q5, by rw [Addr.add_lit, p1, q1, Nat.zero_add, Nat.add_zero]⟩
          · simp at he
        · rename_i id o l
          split at he
          · rename_i e' sz xs hc
            simp only [Option.some.injEq, Prod.mk.injEq] at he
            obtain ⟨rfl, rfl⟩ := he
            obtain ⟨p1, p2, p3⟩ := hφ
            obtain ⟨bd, hb, q1, q2, q3, q4⟩ := M.get hs hc (by simp)
            simp only [RelA] at hv
            obtain ⟨a, c, rfl, r1, r2, r3, r4, _⟩ := hv.2.2 bd hb
            rcases r4 with rfl | ⟨g, r4, rfl⟩
            · simp at p3; omega
            · refine ⟨_, run _ _ _ p2 p3, ?_⟩
              simp only [RelA]
              refine ⟨hv.1, rfl, fun bd' hb' => ?_⟩
              rw [hb] at hb'; cases hb'
              exact ⟨g, r4, by rw [Addr.add_lit, p1, q1, Nat.add_zero, Nat.add_mul]⟩
          · simp at he
        · simp at he
      · simp at he
    · rename_i m e _ _ _ _ ht
      obtain ⟨_, _, _, h2, h3, _⟩ := ty_kind ht
      have := kind_arr h3
      subst this
      split at he
      · rename_i d hd
        obtain ⟨j, de, e1, e2, e3, e4, e5, _⟩ := ty_d hd
        split at he
        · rename_i q hq
          simp only [Option.some.injEq, Prod.mk.injEq] at he
          obtain ⟨rfl, rfl⟩ := he
          obtain ⟨b, o, rfl, hr⟩ := addO_run M hs hq hv
          refine ⟨_, ?_, hr⟩
          have hm : n < (m : Int) := hφ.2
          simp [Instr.indexAt, asIntOf, run_underlying h2, Instr.sureAddr, hφ.1, hm, run_sizeOf' e1, e5, Addr.add_lit]
        · simp at he
      · simp at he
    · simp at he
  · simp at he
theorem index_run {t : TypeId} {y i x : AV} {φ : Prop} (he : indexAV P t y i = some (φ, x)) (hφ : φ) {v u : Value} (hv : RelA U w F β y v) (hi : RelA U w F β i u) :
    ∃ z, (Instr.index t v u).run P w = .ok z w ∧ RelA U w F β x z := by
  unfold indexAV at he
  split at he
  · rename_i k n s
    obtain ⟨rfl, _⟩ := relC.1 hi
    obtain ⟨rfl, _⟩ := relC.1 hv
    split at he
    · rename_i ht
      obtain ⟨_, _, _, h2, h3, _⟩ := ty_kind ht
      have := kind_str h3
      subst this
      simp only [Option.some.injEq, Prod.mk.injEq] at he
      obtain ⟨rfl, rfl⟩ := he
      refine ⟨_, ?_, relI.2 rfl⟩
      have hlt : n.toNat < s.size := by omega
      have e0 : s[n.toNat]? = some s[n.toNat] := getElem?_pos s _ hlt
      have e1 : s.data.toList.getD n.toNat 0 = s[n.toNat] := by
        rw [List.getD_eq_getElem?_getD, Array.getElem?_toList]
        rw [Array.getElem?_eq_getElem hlt]; rfl
      simp only [Instr.index, asIntOf, Sem.run_bind, Sem.run_pure, Result.andThen_ok, run_underlying h2, hφ.1, if_true, e0, e1]
    · simp at he
  · rename_i k n cs
    obtain ⟨rfl, _⟩ := relC.1 hi
    split at he
    · rename_i m e _ _ _ _ ht
      obtain ⟨_, _, _, h2, h3, _⟩ := ty_kind ht
      have := kind_arr h3
      subst this
      split at he
      · rename_i d hd
        obtain ⟨j, de, e1, e2, e3, e4, e5, _⟩ := ty_d hd
        split at he
        · rename_i q hq
          simp only [Option.some.injEq, Prod.mk.injEq] at he
          obtain ⟨rfl, rfl⟩ := he
          simp only [RelA] at hv
          obtain ⟨vs, rfl, hr, hone⟩ := hv
          obtain ⟨z, hz, hrz⟩ := part_run e1 e2 e4 e5 hq hr hone
          have hm : n < (m : Int) := hφ.2
          exact ⟨z, by simp [Instr.index, asIntOf, run_underlying h2, hφ.1, hm, run_sizeOf' e1, e5, hz], hrz⟩
        · simp at he
      · simp at he
    · simp at he
  · simp at he
def optRel (U : Nat → Prop) (w : World) (F : Nat → Prop) (β : Nat → Option Bind) : Option AV → Option Value → Prop
  | none, none => True
  | some x, some v => RelA U w F β x v
  | _, _ => False
theorem bound_run' {dflt : Int} {o : Option AV} {n : Int} (he : bound dflt o = some n) {ov : Option Value} (hv : optRel U w F β o ov) : (ov = none ∧ n = dflt) ∨ ∃ k, ov = some (.int k n) := by
  cases o <;> cases ov <;> simp only [optRel] at hv
  · simp only [bound, Option.some.injEq] at he
    exact .inl ⟨rfl, he.symm⟩
  · rename_i x v
    unfold bound at he
    split at he
    · rename_i h; simp at h
    · rename_i h
      simp only [Option.some.injEq] at h he
      subst h he
      exact .inr ⟨_, by rw [(relC.1 hv).1]⟩
    · simp at he
theorem bounds_run (isSl : Bool) (len cap : Nat) {lo hi : Option Value} {l r : Int} (hl : (lo = none ∧ l = 0) ∨ ∃ k, lo = some (.int k l)) (hr : (hi = none ∧ r = len) ∨ ∃ k, hi = some (.int k r)) (h0 : 0 ≤ l) (h1 : l ≤ r) (h2 : r ≤ len) (hc : len ≤ cap) :
    (Instr.sliceBounds isSl len cap lo hi none).run P w = .ok (l.toNat, r.toNat, cap) w := by
  have e0 : ∀ k c, (Instr.sliceBound (.int k r) cap c).run P w = .ok r.toNat w := by
    intro k c
    have : 0 ≤ r ∧ r ≤ (cap : Int) := by omega
    unfold Instr.sliceBound
    simp only [asIntOf, Sem.run_bind, Sem.run_pure, Result.andThen_ok]
    rw [if_pos this]; rfl
  have e1 : ∀ k c, (Instr.sliceBound (.int k l) r.toNat c).run P w = .ok l.toNat w := by
    intro k c
    have : 0 ≤ l ∧ l ≤ (r.toNat : Int) := by omega
    unfold Instr.sliceBound
    simp only [asIntOf, Sem.run_bind, Sem.run_pure, Result.andThen_ok]
    rw [if_pos this]; rfl
  rcases hl with ⟨rfl, rfl⟩ | ⟨k, rfl⟩ <;> rcases hr with ⟨rfl, rfl⟩ | ⟨k', rfl⟩
  · simp [Instr.sliceBounds]
  · simp [Instr.sliceBounds, e0]
  · have e1' : ∀ k c, (Instr.sliceBound (.int k l) len c).run P w = .ok l.toNat w := by
      intro k c
      have : 0 ≤ l ∧ l ≤ (len : Int) := by omega
      simp [Instr.sliceBound, asIntOf, this]
    simp [Instr.sliceBounds, e1']
  · simp [Instr.sliceBounds, e0, e1]
theorem slice_run (M : MemOk W N U F β h w) (hs : ∀ id, hT id ≠ .dead → hT id = h id) {t : TypeId} {y x : AV} {lo hi : Option AV} {φ : Prop} (he : sliceAV P hT t y lo hi = some (φ, x)) (hφ : φ) {v : Value} {lv hv' : Option Value} (hv : RelA U w F β y v) (hlo : optRel U w F β lo lv) (hhi : optRel U w F β hi hv') :
    ∃ z, (Instr.sliceAt t v lv hv' none).run P w = .ok z w ∧ RelA U w F β x z := by
  unfold sliceAV at he
  split at he
  · rename_i ht
    obtain ⟨_, _, _, h2, h3, _⟩ := ty_kind ht
    have := kind_str h3
    subst this
    split at he
    · rename_i s
      obtain ⟨rfl, _⟩ := relC.1 hv
      split at he
      · rename_i l r hl hr
        simp only [Option.some.injEq, Prod.mk.injEq] at he
        obtain ⟨rfl, rfl⟩ := he
        have hb := bounds_run (P := P) (w := w) false s.size s.size (bound_run' hl hlo) (bound_run' hr hhi) hφ.1 hφ.2.1 hφ.2.2 (Nat.le_refl _)
        exact ⟨_, by simp [Instr.sliceAt, Instr.slice, run_underlying h2, hb], relS.2 rfl⟩
      · simp at he
    · simp at he
  · rename_i e _ _ _ _ ht
    obtain ⟨_, _, _, h2, h3, _⟩ := ty_kind ht
    have := kind_sl h3
    subst this
    split at he
    · rename_i d hd
      obtain ⟨j, de, e1, e2, e3, e4, e5, _⟩ := ty_d hd
      have run : ∀ (a : Option Addr) (n c : Nat) {l r : Int}, ((lv = none ∧ l = 0) ∨ ∃ k, lv = some (.int k l)) → ((hv' = none ∧ r = n) ∨ ∃ k, hv' = some (.int k r)) → 0 ≤ l → l ≤ r → r ≤ n → n ≤ c →
          (Instr.sliceAt t (.slice a n c) lv hv' none).run P w = .ok (.slice (if c = l.toNat then a else a.map (·.add (l.toNat * d.size))) (r.toNat - l.toNat) (c - l.toNat)) w := by
        intro a n c l r hl hr h0 h1 h2' h3'
        have hb := bounds_run (P := P) (w := w) true n c hl hr h0 h1 h2' h3'
        simp [Instr.sliceAt, Instr.slice, run_underlying h2, hb, run_sizeOf' e1, e5]
      have frz : ∀ {sz : Nat} {xs ys : List (List PV)} {l r : Int}, RelP w F (.sl sz xs) v → d.size = sz → ((lv = none ∧ l = 0) ∨ ∃ k, lv = some (.int k l)) → ((hv' = none ∧ r = xs.length) ∨ ∃ k, hv' = some (.int k r)) → 0 ≤ l → l ≤ r → r ≤ xs.length →
          ys = (xs.take r.toNat).drop l.toNat → ∃ z, (Instr.sliceAt t v lv hv' none).run P w = .ok z w ∧ RelA U w F β (.c (.sl sz ys)) z := by
        intro sz xs ys l r hx hsz hl hr h0 h1 h2' hys
        simp only [RelP] at hx
        obtain ⟨a, c, rfl, q1, q2, q3⟩ := hx
        refine ⟨_, run a _ c hl hr h0 h1 h2' q1, ?_⟩
        simp only [RelA, RelP]
        have hlen : ys.length = r.toNat - l.toNat := by rw [hys]; simp; omega
        refine ⟨_, _, by rw [hlen], by omega, by omega, ?_⟩
        rcases q3 with rfl | ⟨b, o, rfl, hb, hE⟩
        · exact .inl (by rw [hys]; simp)
        · by_cases hz : r.toNat - l.toNat = 0
          · exact .inl (List.eq_nil_of_length_eq_zero (by omega))
          · rw [if_neg (by omega)]
            refine .inr ⟨b, o + l.toNat * sz, by simp [Addr.add_lit, hsz], hb, RelE.of fun i cs hi => ?_⟩
            rw [hys, List.getElem?_drop, List.getElem?_take] at hi
            split at hi
            · have := hE.at _ _ hi
              rwa [Nat.add_mul, ← Nat.add_assoc] at this
            · simp at hi
      split at he
      · rename_i sz xs
        simp only [RelA] at hv
        split at he
        · rename_i k r
          simp only [Option.some.injEq, Prod.mk.injEq] at he
          obtain ⟨rfl, rfl⟩ := he
          refine frz (l := 0) (r := r) hv hφ.1 (bound_run' (dflt := 0) rfl hlo) (bound_run' (dflt := xs.length) rfl hhi) (by omega) hφ.2.1 hφ.2.2 (by simp)
        · rename_i k l
          simp only [Option.some.injEq, Prod.mk.injEq] at he
          obtain ⟨rfl, rfl⟩ := he
          exact frz (l := l) (r := xs.length) hv hφ.1 (bound_run' (dflt := 0) rfl hlo) (bound_run' (dflt := xs.length) rfl hhi) hφ.2.1 hφ.2.2 (by omega) (by simp)
        · rename_i k l k' r
          simp only [Option.some.injEq, Prod.mk.injEq] at he
          obtain ⟨rfl, rfl⟩ := he
          exact frz (l := l) (r := r) hv hφ.1 (bound_run' (dflt := 0) rfl hlo) (bound_run' (dflt := xs.length) rfl hhi) hφ.2.1 hφ.2.2.1 hφ.2.2.2 rfl
        · simp only [Option.some.injEq, Prod.mk.injEq] at he
          obtain ⟨rfl, rfl⟩ := he
          exact frz (l := 0) (r := xs.length) hv hφ (bound_run' (dflt := 0) rfl hlo) (bound_run' (dflt := xs.length) rfl hhi) (by omega) (by omega) (by omega) (by simp)
        · simp at he
      · rename_i id
        split at he
        · rename_i e' sz xs hc
          split at he
          · rename_i l r hl hr
            simp only [Option.some.injEq, Prod.mk.injEq] at he
            obtain ⟨rfl, rfl⟩ := he
            obtain ⟨hsz, p1, p2, p3⟩ := hφ
            obtain ⟨bd, hb, q1, q2, q3, q4⟩ := M.get hs hc (by simp)
            simp only [RelA] at hv
            rw [hv.2.2 bd hb]
            rcases q4 with ⟨q5, rfl, q6⟩ | ⟨g, cap, cur, q5, q6, q7, q8, q9, _⟩
            · simp only [List.length_nil] at *
              obtain rfl : l = 0 := by omega
              obtain rfl : r = 0 := by omega
              rw [q6]
              refine ⟨_, run none 0 0 (bound_run' hl hlo) (bound_run' hr hhi) (by omega) (by omega) (by omega) (by omega), ?_⟩
              simp only [RelA]
              refine ⟨hv.1, rfl, fun bd' hb' => ?_⟩
              rw [hb] at hb'; cases hb'
              exact ⟨none, 0, by simp, by simp, by simp, by simp [maxLen], .inl (by simp), fun _ => ⟨0, q6⟩⟩
            · rw [q6]
              refine ⟨_, run _ _ _ (bound_run' hl hlo) (bound_run' hr hhi) p1 p2 p3 q8, ?_⟩
              simp only [RelA]
              refine ⟨hv.1, rfl, fun bd' hb' => ?_⟩
              rw [hb] at hb'; cases hb'
              refine ⟨_, _, rfl, by omega, by omega, by omega, ?_, ?_⟩
              · by_cases hz : r.toNat - l.toNat = 0
                · exact .inl hz
                · refine .inr ⟨g, q5, ?_⟩
                  rw [if_neg (by omega)]
                  simp [Addr.add_lit, hsz, q1]
              · intro h0
                refine ⟨xs.length, ?_⟩
                rw [q6, h0]
                split <;> simp [Addr.add_lit]
          · simp at he
        · simp at he
      · rename_i id o n
        split at he
        · rename_i e' sz xs hc
          split at he
          · rename_i l r hl hr
            simp only [Option.some.injEq, Prod.mk.injEq] at he
            obtain ⟨rfl, rfl⟩ := he
            obtain ⟨hsz, p1, p2, p3⟩ := hφ
            obtain ⟨bd, hb, q1, q2, q3, q4⟩ := M.get hs hc (by simp)
            simp only [RelA] at hv
            obtain ⟨a, c, rfl, r1, r2, r3, r4, r5⟩ := hv.2.2 bd hb
            refine ⟨_, run _ _ _ (bound_run' hl hlo) (bound_run' hr hhi) p1 p2 p3 r2, ?_⟩
            simp only [RelA]
            refine ⟨hv.1, rfl, fun bd' hb' => ?_⟩
            rw [hb] at hb'; cases hb'
            refine ⟨_, _, rfl, by omega, by omega, by omega, ?_, ?_⟩
            · by_cases hz : r.toNat - l.toNat = 0
              · exact .inl hz
              · rcases r4 with rfl | ⟨g, r4, rfl⟩
                · omega
                · refine .inr ⟨g, r4, ?_⟩
                  rw [if_neg (by omega)]
                  simp [Addr.add_lit, hsz, q1, Nat.add_mul]
            · intro h0
              obtain ⟨n', hn'⟩ := r5 (by omega)
              have hl0 : l.toNat = 0 := by omega
              refine ⟨n', ?_⟩
              rw [hn', hl0]
              split
              · simp
              · cases a with
                | none => simp
                | some ad => simp [Addr.add]
          · simp at he
        · simp at he
      · simp at he
    · simp at he
  · simp at he
theorem conv_run {a b : TypeId} {y x : AV} {φ : Prop} (he : convAV P hT a b y = some (φ, x)) {v : Value} (hv : RelA U w F β y v) : ∃ z, (convert a b v).run P w = .ok z w ∧ RelA U w F β x z := by
  unfold convAV at he
  split at he
  · rename_i ta _ _ _ _ _ _ _ h1 h2
    obtain ⟨_, u1, _, k1, _⟩ := ty_d h1
    obtain ⟨_, _, _, k2, k3, _⟩ := ty_kind h2
    have := kind_int k3
    subst this
    obtain ⟨rfl, _⟩ := relC.1 hv
    simp only [Option.some.injEq, Prod.mk.injEq] at he
    obtain ⟨_, rfl⟩ := he
    refine ⟨_, ?_, relI.2 rfl⟩
    simp [convert, run_underlying k1, run_underlying k2, Conv.intToInt]
  · rename_i h1 h2
    obtain ⟨_, _, _, k1, k4, _⟩ := ty_kind h1
    have := kind_str k4
    subst this
    obtain ⟨_, _, _, k2, k3, _⟩ := ty_kind h2
    have := kind_str k3
    subst this
    obtain ⟨rfl, _⟩ := relC.1 hv
    simp only [Option.some.injEq, Prod.mk.injEq] at he
    obtain ⟨_, rfl⟩ := he
    exact ⟨_, by simp [convert, run_underlying k1, run_underlying k2], relS.2 rfl⟩
  · simp at he
theorem len_run (M : MemOk W N U F β h w) (hs : ∀ id, hT id ≠ .dead → hT id = h id) {t : TypeId} {y x : AV} {φ : Prop} (he : lenAV P hT t y = some (φ, x)) {v : Value} (hv : RelA U w F β y v) (ts : Array TypeId) (ht0 : ts[0]? = some t) (vs : Array Value) (hv0 : vs[0]? = some v) (ty' : TypeId) :
    ∃ z, (Builtin.len_ ts ty' vs).run P w = .ok z w ∧ RelA U w F β x z := by
  unfold lenAV at he
  split at he
  · rename_i ht
    obtain ⟨_, _, _, k1, k4, _⟩ := ty_kind ht
    have := kind_str k4
    subst this
    obtain ⟨rfl, _⟩ := relC.1 hv
    simp only [Option.some.injEq, Prod.mk.injEq] at he
    obtain ⟨_, rfl⟩ := he
    exact ⟨_, by simp [Builtin.len_, ht0, hv0, run_underlying k1, goInt], relI.2 rfl⟩
  · rename_i id _ l ht
    obtain ⟨_, _, _, k1, k4, _⟩ := ty_kind ht
    have := kind_sl k4
    subst this
    split at he
    · simp at he
    · rename_i hc
      simp only [Option.some.injEq, Prod.mk.injEq] at he
      obtain ⟨_, rfl⟩ := he
      obtain ⟨bd, hb, _⟩ := M.get hs (id := id) rfl hc
      simp only [RelA] at hv
      obtain ⟨a, c, rfl, _⟩ := hv.2.2 bd hb
      exact ⟨_, by simp [Builtin.len_, ht0, hv0, run_underlying k1, goInt], relI.2 rfl⟩
  · rename_i ht _
    obtain ⟨_, _, _, k1, k4, _⟩ := ty_kind ht
    have := kind_sl k4
    subst this
    split at he
    · rename_i sz xs hx
      simp only [Option.some.injEq, Prod.mk.injEq] at he
      obtain ⟨_, rfl⟩ := he
      obtain ⟨a, c, rfl, _⟩ := slOf_run M hs hx hv
      exact ⟨_, by simp [Builtin.len_, ht0, hv0, run_underlying k1, goInt], relI.2 rfl⟩
    · simp at he
  · rename_i ht
    obtain ⟨_, _, _, k1, k4, _⟩ := ty_kind ht
    have := kind_arr k4
    subst this
    simp only [Option.some.injEq, Prod.mk.injEq] at he
    obtain ⟨_, rfl⟩ := he
    exact ⟨_, by simp [Builtin.len_, ht0, hv0, run_underlying k1, goInt], relI.2 rfl⟩
  · simp at he
theorem min_run {k : IntKind} : ∀ (xs : List AV) (x y : Int), minInts k x xs = some y → ∀ (vs : List Value), RelL U w F β xs vs → (vs.foldlM Builtin.min2 (.int k x)).run P w = .ok (.int k y) w
  | [], x, y, h, vs, hv => by
    simp only [RelL] at hv; subst hv
    simp only [minInts, Option.some.injEq] at h; subst h
    simp
  | a :: r, x, y, h, vs, hv => by
    unfold minInts at h
    split at h
    · rename_i heq; simp at heq
    · rename_i k' z r' heq
      simp only [List.cons.injEq] at heq
      obtain ⟨rfl, rfl⟩ := heq
      simp only [RelL] at hv
      obtain ⟨u, us, rfl, hu, hus⟩ := hv
      obtain ⟨rfl, _⟩ := relC.1 hu
      have := min_run r _ _ h us hus
      simp only [List.foldlM_cons, Builtin.min2, pure_bind]
      exact this
    · simp at h
theorem max_run {k : IntKind} : ∀ (xs : List AV) (x y : Int), maxInts k x xs = some y → ∀ (vs : List Value), RelL U w F β xs vs → (vs.foldlM Builtin.max2 (.int k x)).run P w = .ok (.int k y) w
  | [], x, y, h, vs, hv => by
    simp only [RelL] at hv; subst hv
    simp only [maxInts, Option.some.injEq] at h; subst h
    simp
  | a :: r, x, y, h, vs, hv => by
    unfold maxInts at h
    split at h
    · rename_i heq; simp at heq
    · rename_i k' z r' heq
      simp only [List.cons.injEq] at heq
      obtain ⟨rfl, rfl⟩ := heq
      simp only [RelL] at hv
      obtain ⟨u, us, rfl, hu, hus⟩ := hv
      obtain ⟨rfl, _⟩ := relC.1 hu
      have := max_run r _ _ h us hus
      simp only [List.foldlM_cons, Builtin.max2, pure_bind]
      exact this
    · simp at h
theorem nilCheck_run (M : MemOk W N U F β h w) (hs : ∀ id, hT id ≠ .dead → hT id = h id) {y : AV} (he : isPtr hT y = true) {v : Value} (hv : RelA U w F β y v) : (∃ a, v = .pointer (some a)) ∨ ∃ f a b, v = .func (.func f) a b := by
  unfold isPtr at he
  split at he
  · rename_i id i o
    split at he
    · simp at he
    · rename_i hc
      obtain ⟨bd, hb, _⟩ := M.get hs (id := id) rfl hc
      simp only [RelA] at hv
      obtain ⟨g, _, rfl⟩ := hv.2.2 bd hb
      exact .inl ⟨_, rfl⟩
  · simp only [RelA] at hv
    obtain ⟨b, p, rfl, _⟩ := hv
    exact .inl ⟨_, rfl⟩
  · simp only [RelA] at hv
    obtain ⟨fs, cs, rfl, _⟩ := hv
    exact .inr ⟨_, _, _, rfl⟩
  · simp at he
theorem map_rel {g : Operand → AV} {ev : Operand → Value} : ∀ l : List Operand, (∀ x ∈ l, RelA U w F β (g x) (ev x)) → RelL U w F β (l.map g) (l.map ev)
  | [], _ => by simp [RelL]
  | x :: r, G => by simp only [List.map_cons, RelL]; exact ⟨_, _, rfl, G x (by simp), map_rel r fun y hy => G y (by simp [hy])⟩
theorem opt_rel {g : Operand → AV} {ev : Operand → Value} (o : Option Operand) (G : ∀ x, o = some x → RelA U w F β (g x) (ev x)) : optRel U w F β (o.map g) (o.map ev) := by
  cases o with
  | none => simp [optRel]
  | some x => simpa [optRel] using G x rfl
theorem ex1_run (M : MemOk W N U F β h w) (hs : ∀ id, hT id ≠ .dead → hT id = h id) {g : Operand → AV} {ev : Operand → Value} {o : Oper} (G : ∀ x ∈ o.op.operands.toList, RelA U w F β (g x) (ev x)) {φ : Prop} {x : AV} (he : ex1 P g hT o.op = some (φ, x)) (hφ : φ) :
    ∃ z, (execOp ev o).run P w = .ok (.value z) w ∧ RelA U w F β x z := by
  unfold ex1 at he
  split at he
  · rename_i y hop
    simp only [Option.some.injEq, Prod.mk.injEq] at he; obtain ⟨_, rfl⟩ := he
    exact ⟨ev y, by simp [execOp, hop], G y (by simp [hop, Op.operands, Call.operands])⟩
  · rename_i y hop
    simp only [Option.some.injEq, Prod.mk.injEq] at he; obtain ⟨_, rfl⟩ := he
    exact ⟨ev y, by simp [execOp, hop], G y (by simp [hop, Op.operands, Call.operands])⟩
  · rename_i c a b hop
    split at he
    · rename_i t hc
      have hg := G c (by simp [hop, Op.operands, Call.operands])
      rw [hc] at hg
      refine ⟨if t then ev a else ev b, ?_, pick_run he hφ (G a (by simp [hop, Op.operands, Call.operands])) (G b (by simp [hop, Op.operands, Call.operands]))⟩
      simp [execOp, hop, (relB.1 hg), asBool]
    · simp at he
  · rename_i t a hop
    obtain ⟨z, h1, h2⟩ := load_run M hs he hφ (G a (by simp [hop, Op.operands, Call.operands]))
    exact ⟨z, by simp [execOp, hop, h1], h2⟩
  · rename_i y hop
    split at he
    · rename_i hp
      simp only [Option.some.injEq, Prod.mk.injEq] at he; obtain ⟨_, rfl⟩ := he
      refine ⟨ev y, ?_, G y (by simp [hop, Op.operands, Call.operands])⟩
      rcases nilCheck_run M hs hp (G y (by simp [hop, Op.operands, Call.operands])) with ⟨a, h1⟩ | ⟨f, a, b, h1⟩ <;> simp [execOp, hop, h1]
    · simp at he
  · rename_i op t y z _ hop
    obtain ⟨r, h1, h2⟩ := bin_run M hs he hφ (G y (by simp [hop, Op.operands, Call.operands])) (G z (by simp [hop, Op.operands, Call.operands])) y z
    refine ⟨r, ?_, h2⟩
    simp only [execOp, hop, Sem.run_bind, h1, Result.andThen_ok, Sem.run_pure]
  · rename_i op _ y hop
    obtain ⟨r, h1, h2⟩ := un_run (P := P) he (G y (by simp [hop, Op.operands, Call.operands]))
    exact ⟨r, by simp [execOp, hop, h1], h2⟩
  · rename_i a b y hop
    obtain ⟨r, h1, h2⟩ := conv_run (P := P) (w := w) he (G y (by simp [hop, Op.operands, Call.operands]))
    exact ⟨r, by simp [execOp, hop, h1], h2⟩
  · rename_i t y hop
    split at he
    · simp at he
    · rename_i d hd hne
      obtain ⟨i, u, h1, h2, h3⟩ := ty_some hne
      simp only [Option.some.injEq, Prod.mk.injEq] at he; obtain ⟨_, rfl⟩ := he
      refine ⟨.iface t (ev y), ?_, by simp only [RelA]; exact ⟨_, rfl, G y (by simp [hop, Op.operands, Call.operands])⟩⟩
      cases u <;> first
        | (simp [execOp, hop, Instr.makeInterface, run_underlying h2]; done)
        | (exfalso; subst h3; exact hd _ _ _ _ rfl)
    · simp at he
  · rename_i f a c hop
    simp only [Option.some.injEq, Prod.mk.injEq] at he; obtain ⟨_, rfl⟩ := he
    refine ⟨.func f (a.map ev) (c.map ev), by simp [execOp, hop, Instr.makeFunc], ?_⟩
    simp only [RelA]
    exact ⟨_, _, rfl, by simpa using map_rel a.toList (fun x hx => G x (by simp [hop, Op.operands] at hx ⊢; exact .inl hx)), by simpa using map_rel c.toList (fun x hx => G x (by simp [hop, Op.operands] at hx ⊢; exact .inr hx))⟩
  · rename_i t y lo hi hop
    obtain ⟨r, h1, h2⟩ := slice_run M hs he hφ (G y (by simp [hop, Op.operands, Call.operands])) (opt_rel lo (fun x hx => G x (by simp [hop, Op.operands, hx]))) (opt_rel hi (fun x hx => G x (by simp [hop, Op.operands, hx])))
    exact ⟨r, by simp [execOp, hop, h1], h2⟩
  · rename_i s y f hop
    obtain ⟨r, h1, h2⟩ := fieldAddr_run M hs he (G y (by simp [hop, Op.operands, Call.operands]))
    exact ⟨r, by simp [execOp, hop, h1], h2⟩
  · rename_i s y f hop
    obtain ⟨r, h1, h2⟩ := field_run he (G y (by simp [hop, Op.operands, Call.operands]))
    exact ⟨r, by simp [execOp, hop, h1], h2⟩
  · rename_i t y i hop
    obtain ⟨r, h1, h2⟩ := indexAddr_run M hs he hφ (G y (by simp [hop, Op.operands, Call.operands])) (G i (by simp [hop, Op.operands, Call.operands]))
    exact ⟨r, by simp [execOp, hop, h1], h2⟩
  · rename_i t y i hop
    obtain ⟨r, h1, h2⟩ := index_run he hφ (G y (by simp [hop, Op.operands, Call.operands])) (G i (by simp [hop, Op.operands, Call.operands]))
    exact ⟨r, by simp [execOp, hop, h1], h2⟩
  · rename_i y i hop
    split at he
    · rename_i xs hx
      split at he
      · rename_i q hq
        simp only [Option.some.injEq, Prod.mk.injEq] at he; obtain ⟨_, rfl⟩ := he
        have hg := G y (by simp [hop, Op.operands, Call.operands])
        rw [hx] at hg
        simp only [RelA] at hg
        obtain ⟨vs, hvs, hr⟩ := hg
        obtain ⟨u, hu, hru⟩ := hr.at i q hq
        have hu' : vs[i]? = some u := by simpa using hu
        exact ⟨u, by simp [execOp, hop, Instr.extract, hvs, hu'], hru⟩
      · simp at he
    · simp at he
  · rename_i args ts hop
    split at he
    · rename_i t y ht hy
      obtain ⟨r, h1, h2⟩ := len_run M hs he (G y (by simp [hop, Op.operands, Call.operands]; exact Array.mem_of_getElem? hy)) ts ht (args.map ev) (by simp [hy]) o.type
      exact ⟨r, by simp [execOp, hop, resolve, invoke, builtin, h1], h2⟩
    · simp at he
  · rename_i args ts hop
    split at he
    · rename_i k y r hl
      split at he
      · rename_i q hq
        simp only [Option.some.injEq, Prod.mk.injEq] at he; obtain ⟨_, rfl⟩ := he
        have hr := map_rel (g := g) (ev := ev) args.toList (fun x hx => G x (by simp [hop, Op.operands, Call.operands] at hx ⊢; exact hx))
        rw [hl] at hr
        simp only [RelL] at hr
        obtain ⟨u, us, hus, hu, hrr⟩ := hr
        obtain ⟨rfl, _⟩ := relC.1 hu
        have hm := min_run (P := P) _ _ _ hq us hrr
        refine ⟨_, ?_, relI.2 rfl⟩
        have e : (args.map ev).toList = .int k y :: us := by simpa using hus
        simp [execOp, hop, resolve, invoke, builtin, Builtin.min_, hus, hm]
      · simp at he
    · simp at he
  · rename_i args ts hop
    split at he
    · rename_i k y r hl
      split at he
      · rename_i q hq
        simp only [Option.some.injEq, Prod.mk.injEq] at he; obtain ⟨_, rfl⟩ := he
        have hr := map_rel (g := g) (ev := ev) args.toList (fun x hx => G x (by simp [hop, Op.operands, Call.operands] at hx ⊢; exact hx))
        rw [hl] at hr
        simp only [RelL] at hr
        obtain ⟨u, us, hus, hu, hrr⟩ := hr
        obtain ⟨rfl, _⟩ := relC.1 hu
        have hm := max_run (P := P) _ _ _ hq us hrr
        refine ⟨_, ?_, relI.2 rfl⟩
        simp [execOp, hop, resolve, invoke, builtin, Builtin.max_, hus, hm]
      · simp at he
    · simp at he
  · simp at he
end
end Go.Proofs.Ytibknlfadoeglaa
