/- The abstract machine, part I: what a function does, and a call of it. -/
import Derived.Test.YtibknlfadoeglaaAmQ
namespace Go.Proofs.Ytibknlfadoeglaa
set_option linter.all false
open Go.RowKit
def nth (hs : List Chunk) (i : Nat) : Chunk := hs.getD i .dead
/-- A Go function that can be entered. -/
def Enters (P : Program) (f : FuncId) : Prop := ∃ fn, P.funcs[f]? = some fn ∧ fn.body.isSome = true ∧ (fn.name == "runtime.NumGoroutine") = false
/-- The blocks of the pieces handed in. -/
def inB (β : Nat → Option Bind) (b : Nat) : Prop := ∃ i bd, β i = some bd ∧ bd.b = some b
/-- What a function does: from these arguments and pieces of memory it returns r; the pieces are then hs'. -/
def Spec (P : Program) (f : FuncId) (args : List AV) (hs : List Chunk) (r : AV) (hs' : List Chunk) : Prop :=
  Enters P f ∧ hs.length ≤ hs'.length ∧
  ∀ (w : World) (F : Nat → Prop) (β : Nat → Option Bind) (vs : List Value),
    MemOk w (inB β) (· < hs.length) F β (nth hs) w → RelL (· < hs.length) w F β args vs →
    Calls P f vs.toArray w fun e w' => ∃ v F' β', e = .returned v ∧
      MemOk w (inB β) (· < hs'.length) F' β' (nth hs') w' ∧ RelA (· < hs'.length) w' F' β' r v ∧ (∀ b, F b → F' b) ∧
      (∀ b, F' b → F b ∨ w.heap.size ≤ b ∨ inB β b) ∧ (∀ i bd, i < hs.length → β' i = some bd → β i = some bd)
/-- The place of a number in a list. -/
def ix (ids : List Nat) (id : Nat) : Option Nat := go ids 0
where go : List Nat → Nat → Option Nat
  | [], _ => none
  | a :: r, k => if a = id then some k else go r (k + 1)
theorem ix_some {ids : List Nat} {id j : Nat} (h : ix ids id = some j) : ids[j]? = some id := by
  have key : ∀ (l : List Nat) (k : Nat), ix.go id l k = some j → k ≤ j ∧ l[j - k]? = some id := by
    intro l
    induction l with
    | nil => intro k h; simp [ix.go] at h
    | cons a r ih =>
      intro k h
      unfold ix.go at h
      split at h
      · rename_i e
        simp only [Option.some.injEq] at h
        subst h e
        simp
      · obtain ⟨h1, h2⟩ := ih _ h
        refine ⟨by omega, ?_⟩
        rw [show j - k = (j - (k + 1)) + 1 from by omega, List.getElem?_cons_succ]; exact h2
  simpa using (key ids 0 h).2
theorem ix_none {ids : List Nat} {id : Nat} (h : ix ids id = none) : id ∉ ids := by
  have key : ∀ (l : List Nat) (k : Nat), ix.go id l k = none → id ∉ l := by
    intro l
    induction l with
    | nil => intro k _; simp
    | cons a r ih =>
      intro k h
      unfold ix.go at h
      split at h
      · simp at h
      · rename_i e
        simp only [List.mem_cons, not_or]
        exact ⟨fun h' => e h'.symm, ih _ h⟩
  exact key ids 0 h
/-- A cell as a cell of frozen memory. -/
def cellP (ids : List Nat) (h : Nat → Chunk) : AV → PV
  | .c p => p
  | .own id => match ix ids id with
    | some _ => .undef
    | none => match h id with | .row _ sz xs => .sl sz xs | _ => .undef
  | .view id o l => match ix ids id with
    | some _ => .undef
    | none => match h id with | .row _ sz xs => .sl sz ((xs.drop o).take l) | _ => .undef
  | _ => .undef
mutual
/-- A value as it is seen where the pieces ids alone are owned, and the others are frozen. -/
def cv (ids : List Nat) (h : Nat → Chunk) : AV → AV
  | .undef => .undef
  | .c p => .c p
  | .agg xs => .agg (cvL ids h xs)
  | .tup xs => .tup (cvL ids h xs)
  | .own id => match ix ids id with
    | some j => .own j
    | none => match h id with | .row _ sz xs => .c (.sl sz xs) | _ => .undef
  | .view id o l => match ix ids id with
    | some j => .view j o l
    | none => match h id with | .row _ sz xs => .c (.sl sz ((xs.drop o).take l)) | _ => .undef
  | .ptr id i o => match ix ids id with
    | some j => .ptr j i o
    | none => match h id with
      | .row _ sz xs => .fel sz xs i o
      | .blk _ cs => .fel cs.length [cs.map (cellP ids h)] i o
      | _ => .undef
  | .fel sz xs i o => .fel sz xs i o
  | .clo f a b => .clo f (cvL ids h a) (cvL ids h b)
  | .ifc t x => .ifc t (cv ids h x)
  | .map id => match ix ids id with
    | some j => .map j
    | none => .undef
  | .opt t x => .opt t (cv ids h x)
def cvL (ids : List Nat) (h : Nat → Chunk) : List AV → List AV
  | [] => []
  | x :: r => cv ids h x :: cvL ids h r
end
def cvC (ids : List Nat) (h : Nat → Chunk) : Chunk → Chunk
  | .dead => .dead
  | .row e sz xs => .row e sz xs
  | .blk t cs => .blk t (cvL ids h cs)
  | .mp a n es => .mp a n es
theorem cvL_len (ids : List Nat) (h : Nat → Chunk) : ∀ xs, (cvL ids h xs).length = xs.length
  | [] => rfl
  | x :: r => by simp [cvL, cvL_len ids h r]
/-- Frozen, and the pieces of h that are not in ids. -/
def frzF (ids : List Nat) (h : Nat → Chunk) (F : Nat → Prop) (β : Nat → Option Bind) (b : Nat) : Prop := F b ∨ ∃ id bd, id ∉ ids ∧ h id ≠ .dead ∧ β id = some bd ∧ bd.b = some b
def selB (ids : List Nat) (β : Nat → Option Bind) (j : Nat) : Option Bind := match ids[j]? with | some id => β id | none => none
section
variable {P : Program} {W : World} {N U F : Nat → Prop} {β : Nat → Option Bind} {h hT : Nat → Chunk} {w : World}
theorem frz_keeps (ids : List Nat) (hT : Nat → Chunk) : Keeps w F w (frzF ids hT F β) := fun b hb => ⟨.inl hb, rfl⟩
theorem frz_row (M : MemOk W N U F β h w) (hs : ∀ id, hT id ≠ .dead → hT id = h id) {ids : List Nat} {id e sz : Nat} {xs : List (List PV)} (hn : id ∉ ids) (hc : hT id = .row e sz xs) : ∃ bd, β id = some bd ∧ bd.sz = sz ∧ bd.n = xs.length ∧
    ((bd.b = none ∧ xs = [] ∧ bd.v = .slice none 0 0) ∨ ∃ g cap, bd.b = some g ∧ bd.v = .slice (some ⟨g, 0, none⟩) xs.length cap ∧ xs.length ≤ cap ∧ cap ≤ maxLen ∧ frzF ids hT F β g ∧ RelE w (frzF ids hT F β) g sz 0 xs) := by
  obtain ⟨bd, hb, h1, h2, h3, h4⟩ := M.get hs hc (by simp)
  refine ⟨bd, hb, h1, h2, ?_⟩
  rcases h4 with h4 | ⟨g, cap, cur, h5, h6, h7, h8, h9, h10, hE⟩
  · exact .inl h4
  · exact .inr ⟨g, cap, h5, h6, h8, h9, .inr ⟨id, bd, hn, by rw [hc]; simp, hb, h5⟩, RelE.mono (frz_keeps ids hT) rfl _ _ _ hE⟩
theorem relP_own (M : MemOk W N U F β h w) (hs : ∀ id, hT id ≠ .dead → hT id = h id) {ids : List Nat} {id e sz : Nat} {xs : List (List PV)} (hn : id ∉ ids) (hc : hT id = .row e sz xs) {v : Value} (hv : ∀ bd, β id = some bd → v = bd.v) : RelP w (frzF ids hT F β) (.sl sz xs) v := by
  obtain ⟨bd, hb, h1, h2, h4⟩ := frz_row M hs hn hc
  rw [hv bd hb]
  simp only [RelP]
  rcases h4 with ⟨_, rfl, h6⟩ | ⟨g, cap, h5, h6, h8, h9, hF, hE⟩
  · exact ⟨none, 0, h6, Nat.le_refl _, Nat.zero_le _, .inl rfl⟩
  · exact ⟨_, cap, h6, h8, h9, .inr ⟨g, 0, rfl, hF, hE⟩⟩
theorem relP_view (M : MemOk W N U F β h w) (hs : ∀ id, hT id ≠ .dead → hT id = h id) {ids : List Nat} {id e sz o l : Nat} {xs : List (List PV)} (hn : id ∉ ids) (hc : hT id = .row e sz xs) {v : Value}
    (hv : ∀ bd, β id = some bd → ∃ a c, v = .slice a l c ∧ o + l ≤ bd.n ∧ l ≤ c ∧ c ≤ maxLen ∧ (l = 0 ∨ ∃ g, bd.b = some g ∧ a = some ⟨g, o * bd.sz, none⟩) ∧ (o = 0 → ∃ n, bd.v = .slice a n c)) : RelP w (frzF ids hT F β) (.sl sz ((xs.drop o).take l)) v := by
  obtain ⟨bd, hb, h1, h2, h4⟩ := frz_row M hs hn hc
  obtain ⟨a, c, rfl, k1, k2, k3, k4, _⟩ := hv bd hb
  have hl : ((xs.drop o).take l).length = l := by simp; omega
  simp only [RelP]
  refine ⟨a, c, by rw [hl], by omega, k3, ?_⟩
  rcases k4 with rfl | ⟨g, k5, k6⟩
  · exact .inl (by simp)
  · rcases h4 with ⟨h5, _⟩ | ⟨g', cap, h5, _, _, _, hF, hE⟩
    · rw [k5] at h5; simp at h5
    · rw [k5] at h5; cases h5
      refine .inr ⟨g, _, k6, hF, RelE.of fun i cs hi => ?_⟩
      rw [List.getElem?_take] at hi
      split at hi
      · rw [List.getElem?_drop] at hi
        have := hE.at _ _ hi
        rw [h1, ← Nat.add_mul]
        simpa using this
      · simp at hi
theorem cellP_run (M : MemOk W N U F β h w) (hs : ∀ id, hT id ≠ .dead → hT id = h id) (ids : List Nat) {x : AV} {v : Value} (hv : RelA U w F β x v) (h1 : v.oneCell' = true) : RelP w (frzF ids hT F β) (cellP ids hT x) v := by
  have und : RelP w (frzF ids hT F β) .undef v := by simpa only [RelP] using h1
  unfold cellP
  split
  · simp only [RelA] at hv; exact RelP.mono (frz_keeps ids hT) _ _ hv
  · split
    · exact und
    · rename_i hn
      split
      · rename_i hc
        simp only [RelA] at hv
        exact relP_own M hs (ix_none hn) hc hv.2.2
      · exact und
  · split
    · exact und
    · rename_i hn
      split
      · rename_i hc
        simp only [RelA] at hv
        exact relP_view M hs (ix_none hn) hc hv.2.2
      · exact und
  · exact und
mutual
theorem cv_run (M : MemOk W N U F β h w) (hs : ∀ id, hT id ≠ .dead → hT id = h id) (ids : List Nat) : ∀ (x : AV) (v : Value), RelA U w F β x v → RelA (· < ids.length) w (frzF ids hT F β) (selB ids β) (cv ids hT x) v
  | .undef, v, hv => by simp only [cv, RelA]
  | .c p, v, hv => by simp only [cv, RelA] at hv ⊢; exact RelP.mono (frz_keeps ids hT) _ _ hv
  | .agg xs, v, hv => by
    simp only [cv, RelA] at hv ⊢
    obtain ⟨vs, rfl, k1, k2⟩ := hv
    exact ⟨vs, rfl, cvL_run M hs ids xs _ k1, k2⟩
  | .tup xs, v, hv => by
    simp only [cv, RelA] at hv ⊢
    obtain ⟨vs, rfl, k1⟩ := hv
    exact ⟨vs, rfl, cvL_run M hs ids xs _ k1⟩
  | .own id, v, hv => by
    simp only [cv]
    simp only [RelA] at hv
    split
    · rename_i j hj
      have hj := ix_some hj
      simp only [RelA]
      exact ⟨(List.getElem?_eq_some_iff.1 hj).1, hv.2.1, fun bd hb => hv.2.2 bd (by simpa [selB, hj] using hb)⟩
    · rename_i hn
      split
      · rename_i hc
        simp only [RelA]
        exact relP_own M hs (ix_none hn) hc hv.2.2
      · simp only [RelA]
  | .view id o l, v, hv => by
    simp only [cv]
    simp only [RelA] at hv
    split
    · rename_i j hj
      have hj := ix_some hj
      simp only [RelA]
      exact ⟨(List.getElem?_eq_some_iff.1 hj).1, hv.2.1, fun bd hb => hv.2.2 bd (by simpa [selB, hj] using hb)⟩
    · rename_i hn
      split
      · rename_i hc
        simp only [RelA]
        exact relP_view M hs (ix_none hn) hc hv.2.2
      · simp only [RelA]
  | .ptr id i o, v, hv => by
    simp only [cv]
    simp only [RelA] at hv
    split
    · rename_i j hj
      have hj := ix_some hj
      simp only [RelA]
      exact ⟨(List.getElem?_eq_some_iff.1 hj).1, hv.2.1, fun bd hb => hv.2.2 bd (by simpa [selB, hj] using hb)⟩
    · rename_i hn
      split
      · rename_i hc
        obtain ⟨bd, hb, h1, h2, h4⟩ := frz_row M hs (ix_none hn) hc
        obtain ⟨g, hg, rfl⟩ := hv.2.2 bd hb
        simp only [RelA]
        rcases h4 with ⟨h5, _⟩ | ⟨g', cap, h5, _, _, _, hF, hE⟩
        · rw [hg] at h5; simp at h5
        · rw [hg] at h5; cases h5
          exact ⟨g, 0, by rw [h1, Nat.zero_add], hF, hE⟩
      · rename_i t cs hc
        obtain ⟨bd, hb, h1, h2, g, vs, h3, h4, h5, h6, h7⟩ := M.get hs hc (by simp)
        obtain ⟨g', hg, rfl⟩ := hv.2.2 bd hb
        rw [h3] at hg; cases hg
        simp only [RelA]
        refine ⟨g, 0, by rw [h1, Nat.zero_add], .inr ⟨id, bd, ix_none hn, by rw [hc]; simp, hb, h3⟩, ?_⟩
        simp only [RelE, and_true]
        refine ⟨by simp, RelC.of fun j p hp => ?_⟩
        rw [List.getElem?_map] at hp
        cases hx : cs[j]? with
        | none => rw [hx] at hp; simp at hp
        | some x =>
          rw [hx] at hp
          simp only [Option.map_some, Option.some.injEq] at hp
          subst hp
          obtain ⟨u, hu, hr⟩ := h6.at j x hx
          refine ⟨u, ?_, cellP_run M hs ids hr (h7 u (List.mem_of_getElem? hu))⟩
          simp only [World.cell?, h5, Nat.zero_add]
          simpa using hu
      · simp only [RelA]
  | .fel sz xs i o, v, hv => by
    simp only [cv, RelA] at hv ⊢
    obtain ⟨b, p, rfl, hb, hE⟩ := hv
    exact ⟨b, p, rfl, .inl hb, RelE.mono (frz_keeps ids hT) rfl _ _ _ hE⟩
  | .clo f a b, v, hv => by
    simp only [cv, RelA] at hv ⊢
    obtain ⟨fs, cs, rfl, k1, k2⟩ := hv
    exact ⟨fs, cs, rfl, cvL_run M hs ids a _ k1, cvL_run M hs ids b _ k2⟩
  | .ifc t x, v, hv => by
    simp only [cv, RelA] at hv ⊢
    obtain ⟨y, rfl, k1⟩ := hv
    exact ⟨y, rfl, cv_run M hs ids x y k1⟩
  | .map id, v, hv => by
    simp only [cv]
    simp only [RelA] at hv
    split
    · rename_i j hj
      have hj := ix_some hj
      simp only [RelA]
      exact ⟨(List.getElem?_eq_some_iff.1 hj).1, hv.2.1, fun bd hb => hv.2.2 bd (by simpa [selB, hj] using hb)⟩
    · simp only [RelA]
  | .opt t x, v, hv => by
    simp only [cv, RelA] at hv ⊢
    exact ⟨fun ht => cv_run M hs ids x v (hv.1 ht), hv.2⟩
theorem cvL_run (M : MemOk W N U F β h w) (hs : ∀ id, hT id ≠ .dead → hT id = h id) (ids : List Nat) : ∀ (xs : List AV) (vs : List Value), RelL U w F β xs vs → RelL (· < ids.length) w (frzF ids hT F β) (selB ids β) (cvL ids hT xs) vs
  | [], vs, hv => by simp only [cvL, RelL] at hv ⊢; exact hv
  | x :: r, vs, hv => by
    simp only [cvL, RelL] at hv ⊢
    obtain ⟨u, us, rfl, k1, k2⟩ := hv
    exact ⟨u, us, rfl, cv_run M hs ids x u k1, cvL_run M hs ids r us k2⟩
end
/-- The memory where the pieces ids alone are owned. -/
theorem cv_mem (M : MemOk W N U F β h w) (hs : ∀ id, hT id ≠ .dead → hT id = h id) (ids : List Nat) (hnd : ids.Nodup) :
    MemOk W N (· < ids.length) (frzF ids hT F β) (selB ids β) (nth (ids.map fun id => cvC ids hT (h id))) w := by
  have sel : ∀ {j bd}, selB ids β j = some bd → ∃ id, ids[j]? = some id ∧ β id = some bd := by
    intro j bd hj
    unfold selB at hj
    split at hj
    · exact ⟨_, by assumption, hj⟩
    · simp at hj
  refine ⟨M.size, M.os, M.tape, M.output, M.frame, ?_, ?_, ?_, ?_, ?_⟩
  · intro b hb
    rcases hb with hb | ⟨id, bd, _, _, h1, h2⟩
    · exact M.fin b hb
    · exact (M.off id bd b h1 h2).2.1
  · intro j bd hj
    obtain ⟨id, h1, _⟩ := sel hj
    exact (List.getElem?_eq_some_iff.1 h1).1
  · intro j hj
    unfold nth at hj ⊢
    rw [List.getD_eq_getElem?_getD, List.getElem?_map] at hj ⊢
    cases hid : ids[j]? with
    | none => rw [hid] at hj; simp at hj
    | some id =>
      rw [hid] at hj
      simp only [Option.map_some, Option.getD_some] at hj ⊢
      have hne : h id ≠ .dead := by intro he; rw [he] at hj; exact hj rfl
      obtain ⟨bd, hb, hk⟩ := M.ch id hne
      refine ⟨bd, by simpa [selB, hid] using hb, ?_⟩
      cases hc : h id with
      | dead => exact (hne hc).elim
      | row e sz xs =>
        rw [hc] at hk
        obtain ⟨k1, k2, k3, k4⟩ := hk
        refine ⟨k1, k2, k3, ?_⟩
        rcases k4 with k4 | ⟨g, cap, cur, k5, k6, k7, k8, k9, k10, hE⟩
        · exact .inl k4
        · exact .inr ⟨g, cap, cur, k5, k6, k7, k8, k9, k10, RelE.mono (frz_keeps ids hT) rfl _ _ _ hE⟩
      | blk t cs =>
        rw [hc] at hk
        obtain ⟨k1, k2, g, vs, k3, k4, k5, k6, k7⟩ := hk
        exact ⟨by rw [cvL_len]; exact k1, k2, g, vs, k3, k4, k5, cvL_run M hs ids cs _ k6, k7⟩
      | mp a n es => rw [hc] at hk; exact hk
  · intro i j bi bj b hi hj hbi hbj
    obtain ⟨x, x1, x2⟩ := sel hi
    obtain ⟨y, y1, y2⟩ := sel hj
    have := M.dis x y bi bj b x2 y2 hbi hbj
    subst this
    exact (List.getElem?_inj (List.getElem?_eq_some_iff.1 x1).1 hnd).1 (x1.trans y1.symm)
  · intro j bd b hj hb
    obtain ⟨id, h1, h2⟩ := sel hj
    obtain ⟨k1, k2, k3⟩ := M.off id bd b h2 hb
    refine ⟨fun hf => ?_, k2, k3⟩
    rcases hf with hf | ⟨id', bd', hn, _, hb', hbb⟩
    · exact k1 hf
    · have := M.dis id id' bd bd' b h2 hb' hb hbb
      subst this
      exact hn (List.mem_of_getElem? h1)
end
end Go.Proofs.Ytibknlfadoeglaa
