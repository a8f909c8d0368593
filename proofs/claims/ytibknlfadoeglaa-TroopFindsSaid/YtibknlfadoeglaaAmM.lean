/- The abstract machine, part M: a region that draws its order. -/
import Derived.Test.YtibknlfadoeglaaAmL
import Derived.Test.YtibknlfadoeglaaMp
namespace Go.Proofs.Ytibknlfadoeglaa
set_option linter.all false
open Go.RowKit
section
variable {P : Program} {W : World} {N U F : Nat → Prop} {β : Nat → Option Bind} {h hT : Nat → Chunk} {w : World} {a : Act} {m : Nat}
theorem opX_cut {g : Operand → AV} {K : Eff → Prop} {op : Op} (hx : opX P g hT m K op) : ∃ e, opX P g hT m (· = e) op ∧ K e := by
  unfold opX at hx ⊢
  split at hx
  · split at hx
    · obtain ⟨e, h1, h2⟩ := hx
      exact ⟨e, ⟨e, h1, rfl⟩, h2⟩
    · exact hx.elim
  · split at hx
    · exact ⟨_, ⟨hx.1, rfl⟩, hx.2⟩
    · exact hx.elim
theorem opG_cut {c : Bool} {g : Operand → AV} {K : Eff → Prop} {op : Op} (hx : opG P c g hT m K op) : ∃ e, opG P c g hT m (· = e) op ∧ K e := by
  unfold opG at hx ⊢
  split at hx
  · split at hx
    · rcases hx with ⟨r, h1, h2⟩ | ⟨h1, h2⟩
      · exact ⟨_, .inl ⟨r, h1, rfl⟩, h2⟩
      · cases c with
        | true =>
          obtain ⟨h3, e, h4, h5⟩ := h1 rfl
          exact ⟨e, .inr ⟨fun _ => ⟨h3, e, h4, rfl⟩, fun h => by simp at h⟩, h5⟩
        | false => exact ⟨_, .inr ⟨fun h => by simp at h, fun _ => rfl⟩, h2 rfl⟩
    · exact ⟨_, ⟨hx.1, rfl⟩, hx.2⟩
  · split at hx
    · split at hx
      · exact ⟨_, ⟨hx.1, rfl⟩, hx.2⟩
      · exact ⟨_, ⟨hx.1, rfl⟩, hx.2⟩
    · exact ⟨_, ⟨hx.1, rfl⟩, hx.2⟩
  · split at hx
    · exact ⟨_, ⟨hx.1, rfl⟩, hx.2⟩
    · cases c with
      | true => exact ⟨_, ⟨fun hc => ⟨(hx.1 hc).1, (hx.1 hc).2.1, rfl⟩, fun h => by simp at h⟩, (hx.1 rfl).2.2⟩
      | false => exact ⟨_, ⟨fun h => by simp at h, fun _ => rfl⟩, hx.2 rfl⟩
    · exact ⟨_, ⟨hx.1, rfl⟩, hx.2⟩
theorem opWF_cut {ops : Array Oper} {o : Oper} {f : Nat → AV} {K : Eff → Prop} (hx : opWF P ops o f hT m K) : ∃ e, opWF P ops o f hT m (· = e) ∧ K e := by
  unfold opWF at hx ⊢
  split at hx
  · exact opX_cut hx
  · split at hx
    · exact hx.elim
    · exact opG_cut hx
end
def updT (f : Nat → AV) (d : Option Tmp) (v : AV) (t : Nat) : AV := if d = some t then v else f t
/-- The temporaries, the memory, when those operations that L tells have been carried out, among the first k. -/
def tS (f : Nat → AV) (ds : List (Option Tmp)) (es : List Eff) (L : Nat → Bool) : Nat → Nat → AV
  | 0 => f
  | k + 1 => match L k, es[k]? with
    | true, some e => updT (tS f ds es L k) (ds.getD k none) e.val
    | _, _ => tS f ds es L k
def hS (h : Nat → Chunk) (es : List Eff) (L : Nat → Bool) : Nat → Nat → Chunk
  | 0 => h
  | k + 1 => match L k, es[k]? with
    | true, some e => upd (hS h es L k) e.ups
    | _, _ => hS h es L k
theorem upd_in {h : Nat → Chunk} : ∀ {ups : List (Nat × Chunk)} {i : Nat}, i ∉ ups.map (·.1) → upd h ups i = h i
  | [], _, _ => rfl
  | (k, c) :: r, i, hn => by
    simp only [List.map_cons, List.mem_cons, not_or] at hn
    simp only [upd]
    rw [if_neg (Ne.symm hn.1)]
    exact upd_in hn.2
theorem upd_same {h h' : Nat → Chunk} : ∀ {ups : List (Nat × Chunk)} {i : Nat}, i ∈ ups.map (·.1) → upd h ups i = upd h' ups i
  | [], _, hn => by simp at hn
  | (k, c) :: r, i, hn => by
    simp only [upd]
    by_cases e : k = i
    · rw [if_pos e, if_pos e]
    · rw [if_neg e, if_neg e]
      simp only [List.map_cons, List.mem_cons] at hn
      exact upd_same (hn.resolve_left (Ne.symm e))
section
variable {f : Nat → AV} {h : Nat → Chunk} {ds : List (Option Tmp)} {es : List Eff}
theorem tS_agree {L : Nat → Bool} {t i : Nat} (hlt : ∀ k, k < i → ds.getD k none = some t → L k = true) : ∀ n, i ≤ n → (∀ k, i ≤ k → k < n → ds.getD k none = some t → L k = false) → tS f ds es L n t = tS f ds es (fun _ => true) i t := by
  have lo : ∀ k, k ≤ i → tS f ds es L k t = tS f ds es (fun _ => true) k t := by
    intro k
    induction k with
    | zero => intro _; rfl
    | succ k ih =>
      intro hk
      have ih := ih (by omega)
      simp only [tS]
      cases hL : L k with
      | true =>
        cases he : es[k]? with
        | none => exact ih
        | some e => simp only [updT]; rw [ih]
      | false =>
        have hd : ds.getD k none ≠ some t := fun h => by have := hlt k (by omega) h; rw [hL] at this; simp at this
        cases he : es[k]? with
        | none => exact ih
        | some e => simp only [updT]; rw [if_neg hd]; exact ih
  intro n
  induction n with
  | zero => intro hi _; have : i = 0 := by omega
            subst this; rfl
  | succ n ih =>
    intro hi hgt
    by_cases e : i = n + 1
    · subst e; exact lo _ (Nat.le_refl _)
    · have ih := ih (by omega) (fun k h1 h2 => hgt k h1 (by omega))
      simp only [tS]
      cases hL : L n with
      | false => exact ih
      | true =>
        have hd : ds.getD n none ≠ some t := fun h => by have := hgt n (by omega) (by omega) h; rw [hL] at this; simp at this
        cases he : es[n]? with
        | none => exact ih
        | some e => simp only [updT]; rw [if_neg hd]; exact ih
theorem hS_agree {L : Nat → Bool} {t i : Nat} (hlt : ∀ k e, k < i → es[k]? = some e → t ∈ e.ups.map (·.1) → L k = true) : ∀ n, i ≤ n → (∀ k e, i ≤ k → k < n → es[k]? = some e → t ∈ e.ups.map (·.1) → L k = false) → hS h es L n t = hS h es (fun _ => true) i t := by
  have lo : ∀ k, k ≤ i → hS h es L k t = hS h es (fun _ => true) k t := by
    intro k
    induction k with
    | zero => intro _; rfl
    | succ k ih =>
      intro hk
      have ih := ih (by omega)
      simp only [hS]
      cases he : es[k]? with
      | none => cases hL : L k <;> exact ih
      | some e =>
        by_cases hd : t ∈ e.ups.map (·.1)
        · rw [hlt k e (by omega) he hd]
          exact upd_same hd
        · cases hL : L k with
          | true => simp only [upd_in hd]; exact ih
          | false => simp only [upd_in hd]; exact ih
  intro n
  induction n with
  | zero => intro hi _; have : i = 0 := by omega
            subst this; rfl
  | succ n ih =>
    intro hi hgt
    by_cases e : i = n + 1
    · subst e; exact lo _ (Nat.le_refl _)
    · have ih := ih (by omega) (fun k e h1 h2 => hgt k e h1 (by omega))
      simp only [hS]
      cases he : es[n]? with
      | none => cases hL : L n <;> exact ih
      | some e =>
        cases hL : L n with
        | false => exact ih
        | true =>
          have hd : t ∉ e.ups.map (·.1) := fun h => by have := hgt n e (by omega) (by omega) he h; rw [hL] at this; simp at this
          simp only [upd_in hd]; exact ih
def setL (L : Nat → Bool) (i : Nat) (k : Nat) : Bool := if k = i then true else L k
theorem tS_insert {L : Nat → Bool} {i : Nat} (hi : L i = false) {e : Eff} (he : es[i]? = some e) : ∀ n, i < n → (∀ k t, i < k → k < n → L k = true → ds.getD k none = some t → ds.getD i none ≠ some t) → tS f ds es (setL L i) n = updT (tS f ds es L n) (ds.getD i none) e.val := by
  have lo : ∀ k, k ≤ i → tS f ds es (setL L i) k = tS f ds es L k := by
    intro k
    induction k with
    | zero => intro _; rfl
    | succ k ih =>
      intro hk
      have e1 : setL L i k = L k := by unfold setL; rw [if_neg (by omega)]
      simp only [tS, e1, ih (by omega)]
  intro n
  induction n with
  | zero => intro h; omega
  | succ n ih =>
    intro hn hd
    by_cases e' : i = n
    · subst e'
      have e1 : setL L i i = true := by unfold setL; rw [if_pos rfl]
      simp only [tS, e1, hi, he, lo i (Nat.le_refl _)]
    · have ih := ih (by omega) (fun k t h1 h2 => hd k t h1 (by omega))
      have e1 : setL L i n = L n := by unfold setL; rw [if_neg (by omega)]
      simp only [tS, e1, ih]
      cases hL : L n with
      | false => rfl
      | true =>
        cases hen : es[n]? with
        | none => rfl
        | some e2 =>
          funext t
          simp only [updT]
          by_cases h1 : ds.getD n none = some t
          · rw [if_pos h1, if_pos h1, if_neg (hd n t (by omega) (by omega) hL h1)]
          · rw [if_neg h1, if_neg h1]
theorem hS_insert {L : Nat → Bool} {i : Nat} (hi : L i = false) {e : Eff} (he : es[i]? = some e) : ∀ n, i < n → (∀ k e2 t, i < k → k < n → L k = true → es[k]? = some e2 → t ∈ e2.ups.map (·.1) → t ∉ e.ups.map (·.1)) → hS h es (setL L i) n = upd (hS h es L n) e.ups := by
  have lo : ∀ k, k ≤ i → hS h es (setL L i) k = hS h es L k := by
    intro k
    induction k with
    | zero => intro _; rfl
    | succ k ih =>
      intro hk
      have e1 : setL L i k = L k := by unfold setL; rw [if_neg (by omega)]
      simp only [hS, e1, ih (by omega)]
  intro n
  induction n with
  | zero => intro h; omega
  | succ n ih =>
    intro hn hd
    by_cases e' : i = n
    · subst e'
      have e1 : setL L i i = true := by unfold setL; rw [if_pos rfl]
      simp only [hS, e1, hi, he, lo i (Nat.le_refl _)]
    · have ih := ih (by omega) (fun k e2 t h1 h2 => hd k e2 t h1 (by omega))
      have e1 : setL L i n = L n := by unfold setL; rw [if_neg (by omega)]
      simp only [hS, e1, ih]
      cases hL : L n with
      | false => rfl
      | true =>
        cases hen : es[n]? with
        | none => rfl
        | some e2 =>
          funext t
          show upd (upd (hS h es L n) e.ups) e2.ups t = upd (upd (hS h es L n) e2.ups) e.ups t
          by_cases h1 : t ∈ e2.ups.map (·.1)
          · have h2 := hd n e2 t (by omega) (by omega) hL hen h1
            rw [upd_in (h := upd (hS h es L n) e2.ups) h2]
            exact upd_same h1
          · rw [upd_in h1]
            by_cases h2 : t ∈ e.ups.map (·.1)
            · exact upd_same h2
            · rw [upd_in h2, upd_in h2, upd_in h1]
end
theorem hS_stay {h : Nat → Chunk} {es : List Eff} {L : Nat → Bool} {t i : Nat} : ∀ n, i ≤ n → (∀ k e, i ≤ k → k < n → es[k]? = some e → t ∈ e.ups.map (·.1) → L k = false) → hS h es L n t = hS h es L i t := by
  intro n
  induction n with
  | zero => intro hi _; have : i = 0 := by omega
            subst this; rfl
  | succ n ih =>
    intro hi hgt
    by_cases e : i = n + 1
    · subst e; rfl
    · have ih := ih (by omega) (fun k e h1 h2 => hgt k e h1 (by omega))
      simp only [hS]
      cases he : es[n]? with
      | none => cases hL : L n <;> exact ih
      | some e =>
        cases hL : L n with
        | false => exact ih
        | true =>
          have hd : t ∉ e.ups.map (·.1) := fun h => by have := hgt n e (by omega) (by omega) he h; rw [hL] at this; simp at this
          simp only [upd_in hd]; exact ih
theorem mget_zero (k l : List Int) : ∀ es : List (List Int × Int), mget k (es ++ [(l, 0)]) = mget k es
  | [] => by rw [List.nil_append, mget_cons, mget_nil]; split <;> rfl
  | (k', v) :: r => by rw [List.cons_append, mget_cons, mget_cons, mget_zero k l r]
theorem mget_open (k l : List Int) (es : List (List Int × Int)) : mget k (mopen l es) = mget k es := by
  unfold mopen
  split
  · rfl
  · exact mget_zero k l es
/-- Entries of a map may have been opened. -/
def OpenC (c c' : Chunk) : Prop := c' = c ∨ ∃ a n es l, c = .mp a n es ∧ c' = .mp a n (mopen l es)
theorem ex3_open {P : Program} {g : Operand → AV} {h h' : Nat → Chunk} {m : Nat} {t : TypeId} {x k : Operand} (H : ∀ i, OpenC (h i) (h' i)) : ex3 P g h' m (.lookup t x k false) = ex3 P g h m (.lookup t x k false) := by
  simp only [ex3, mapAV]
  cases ty P t with
  | none => rfl
  | some d =>
    obtain ⟨kd, _, _, _, _⟩ := d
    cases kd <;> try rfl
    cases g x <;> try rfl
    rename_i id
    rcases H id with e | ⟨a, n, es, l, e1, e2⟩
    · simp only [e]
    · simp only [e1, e2]
      cases kty P _ <;> cases keyA (g k) <;> try rfl
      rename_i p q
      obtain ⟨_, _⟩ := p
      obtain ⟨_, _⟩ := q
      simp only
      generalize (a == _ && a == _ && Nat.beq n _ && Nat.beq n _ && intTy P _) = b
      cases b <;> simp [mget_open]
theorem opWF_open {P : Program} {ops : Array Oper} {o : Oper} {f : Nat → AV} {h h' : Nat → Chunk} {m : Nat} {K : Eff → Prop} (ho : isLk o = true) (H : ∀ i, OpenC (h i) (h' i)) (hx : opWF P ops o f h m K) : opWF P ops o f h' m K := by
  unfold isLk at ho
  rw [Bool.and_eq_true] at ho
  obtain ⟨h1, h2⟩ := ho
  have hg : o.guard = none := by simpa using h1
  split at h2
  · rename_i t x k hop
    unfold opWF at hx ⊢
    rw [hg] at hx ⊢
    simp only [opX, hop] at hx ⊢
    rw [ex3_open H]; exact hx
  · simp at h2
/-- What the opening of an entry leaves. -/
theorem entry_ups {P : Program} {ops : Array Oper} {o : Oper} {f : Nat → AV} {h : Nat → Chunk} {m : Nat} {e : Eff} (ho : isEn o = true) (hx : opWF P ops o f h m (· = e)) : ∃ id a n es l, h id = .mp a n es ∧ e.ups = [(id, .mp a n (mopen l es))] := by
  unfold isEn at ho
  rw [Bool.and_eq_true] at ho
  obtain ⟨h1, h2⟩ := ho
  have hg : o.guard = none := by simpa using h1
  split at h2
  · rename_i t x k hop
    unfold opWF at hx
    rw [hg] at hx
    simp only [opX, hop, ex3] at hx
    split at hx
    · rename_i φ e' he
      obtain ⟨_, rfl⟩ := hx
      split at he
      · rename_i id a n es l hm
        simp only [Option.some.injEq, Prod.mk.injEq] at he
        obtain ⟨_, rfl⟩ := he
        refine ⟨id, a, n, es, l, ?_, rfl⟩
        unfold mapAV at hm
        split at hm
        · split at hm
          · split at hm
            · rename_i a' n' es' hid
              split at hm
              · split at hm
                · simp only [Option.some.injEq, Prod.mk.injEq] at hm
                  obtain ⟨rfl, rfl, rfl, rfl, rfl⟩ := hm
                  exact hid
                · simp at hm
              · simp at hm
            · simp at hm
          · simp at hm
        · simp at hm
      · simp at he
    · exact hx.elim
  · simp at h2
/-! who comes first -/
def Closed (ops : Array Oper) (E : Nat → Prop) : Prop := ∀ i o, ops[i]? = some o → E i → ∀ e ∈ o.after, Region.binds .any e = true → E e.on
theorem testBit_edge {ms : List Nat} : ∀ {es : List Edge} {j : Nat}, (edgeMask ms es).testBit j = true → ∃ e ∈ es, Region.binds .any e = true ∧ (j = e.on ∨ (ms.getD e.on 0).testBit j = true)
  | [], j, h => by simp [edgeMask] at h
  | e :: r, j, h => by
    simp only [edgeMask] at h
    split at h
    · rename_i hb
      rw [Nat.testBit_or, Nat.testBit_or, Bool.or_eq_true, Bool.or_eq_true] at h
      rcases h with (h | h) | h
      · refine ⟨e, by simp, hb, .inl ?_⟩
        rw [Nat.one_shiftLeft, Nat.testBit_two_pow] at h
        exact (of_decide_eq_true h).symm
      · exact ⟨e, by simp, hb, .inr h⟩
      · obtain ⟨e', h1, h2⟩ := testBit_edge h
        exact ⟨e', by simp [h1], h2⟩
    · obtain ⟨e', h1, h2⟩ := testBit_edge h
      exact ⟨e', by simp [h1], h2⟩
theorem masks_spec {ops : Array Oper} {E : Nat → Prop} (hE : Closed ops E) : ∀ (l : List Oper) (ms : List Nat), ops.toList.drop ms.length = l → (∀ i j, (ms.getD i 0).testBit j = true → E i → E j) → ∀ i j, ((masks l ms).getD i 0).testBit j = true → E i → E j
  | [], ms, _, hm => by simpa only [masks] using hm
  | o :: r, ms, hd, hm => by
    simp only [masks]
    refine masks_spec hE r _ ?_ ?_
    · simp only [List.length_append, List.length_singleton]
      rw [← List.drop_drop, hd]; rfl
    · intro i j hb hi
      have ho : ops[ms.length]? = some o := by
        have : (ops.toList.drop ms.length)[0]? = some o := by rw [hd]; rfl
        rw [List.getElem?_drop] at this
        simpa using this
      rw [List.getD_eq_getElem?_getD] at hb
      by_cases h1 : i < ms.length
      · rw [List.getElem?_append_left h1, ← List.getD_eq_getElem?_getD] at hb
        exact hm i j hb hi
      · by_cases h2 : i = ms.length
        · subst h2
          rw [List.getElem?_append_right (Nat.le_refl _)] at hb
          simp only [Nat.sub_self, List.getElem?_cons_zero, Option.getD_some] at hb
          obtain ⟨e, k1, k2, k3⟩ := testBit_edge hb
          have he := hE _ o ho hi e (by simpa using k1) k2
          rcases k3 with rfl | k3
          · exact he
          · exact hm _ _ k3 he
        · rw [List.getElem?_eq_none (by simp; omega)] at hb
          simp at hb
theorem memN_iff : ∀ {l : List Nat} {i : Nat}, memN l i = true ↔ i ∈ l
  | [], i => by simp [memN]
  | a :: r, i => by
    simp only [memN]
    by_cases h : a = i
    · simp [h]
    · rw [if_neg h, memN_iff]; simp [Ne.symm h]
theorem disj_iff {a b : List Nat} (h : disj a b = true) : ∀ x ∈ a, x ∉ b := by
  intro x hx hb
  have := List.all_eq_true.1 h x hx
  rw [memN_iff.2 hb] at this
  simp at this
/-- What the run in the order of the text has shown of an operation. -/
structure OpAt (P : Program) (nt : Nat) (ops : Array Oper) (n0 : Nat) (f : Nat → AV) (h : Nat → Chunk) (ds : List (Option Tmp)) (es : List Eff) (acc : List (List Nat × List Nat)) (i : Nat) : Prop where
  ok : ∃ o e, ops[i]? = some o ∧ es[i]? = some e ∧ dstOk nt o.dst ∧ ds.getD i none = o.dst ∧ e.fresh ≤ 4 ∧ (fp acc i).2 = e.ups.map (·.1) ∧
    opWF P ops o (tS f ds es (fun _ => true) i) (onlyC (fp acc i).1 (hS h es (fun _ => true) i)) (n0 + 4 * i) (· = e)
theorem look_put (d : Option Tmp) (x : AV) (t : List (Nat × AV)) : look (putO d x t) = updT (look t) d x := by
  funext i
  cases d with
  | none => simp [putO, updT]
  | some d => simp [putO, look, updT]
theorem tS_app {f : Nat → AV} {ds : List (Option Tmp)} {es : List Eff} {L : Nat → Bool} (e : Eff) : ∀ k, k ≤ es.length → tS f ds (es ++ [e]) L k = tS f ds es L k
  | 0, _ => rfl
  | k + 1, h => by
    have h1 : (es ++ [e])[k]? = es[k]? := List.getElem?_append_left (by omega)
    have ih := tS_app (f := f) (ds := ds) (es := es) (L := L) e k (by omega)
    simp only [tS, h1, ih]
theorem hS_app {f : Nat → Chunk} {es : List Eff} {L : Nat → Bool} (e : Eff) : ∀ k, k ≤ es.length → hS f (es ++ [e]) L k = hS f es L k
  | 0, _ => rfl
  | k + 1, h => by
    have h1 : (es ++ [e])[k]? = es[k]? := List.getElem?_append_left (by omega)
    have ih := hS_app (f := f) (es := es) (L := L) e k (by omega)
    simp only [hS, h1, ih]
theorem fp_app {acc : List (List Nat × List Nat)} (x : List Nat × List Nat) {k : Nat} (h : k < acc.length) : fp (acc ++ [x]) k = fp acc k := by
  unfold fp
  rw [List.getD_eq_getElem?_getD, List.getElem?_append_left h, ← List.getD_eq_getElem?_getD]
/-- The run in the order of the text, laid out. -/
theorem drawL_out {P : Program} {nt : Nat} {ops : Array Oper} {n0 : Nat} {K : List (List Nat × List Nat) → St → Prop} {f : Nat → AV} {h : Nat → Chunk} : ∀ (l : List Oper) (i : Nat) (s : St) (acc : List (List Nat × List Nat)) (es : List Eff),
    ops.toList.drop i = l → i ≤ ops.size → es.length = i → acc.length = i → look s.t = tS f (ops.toList.map (·.dst)) es (fun _ => true) i → lookC s.h = hS h es (fun _ => true) i → (∀ k, k < i → OpAt P nt ops n0 f h (ops.toList.map (·.dst)) es acc k) →
    drawL P nt ops n0 i l acc K s → ∃ es' acc' s', es'.length = ops.size ∧ s'.n = s.n ∧ look s'.t = tS f (ops.toList.map (·.dst)) es' (fun _ => true) ops.size ∧ lookC s'.h = hS h es' (fun _ => true) ops.size ∧
      (∀ k, k < ops.size → OpAt P nt ops n0 f h (ops.toList.map (·.dst)) es' acc' k) ∧ K acc' s'
  | [], i, ⟨st, sh, sn⟩, acc, es, hl, hi, h1, h2, h3, h4, h5, hx => by
    have hsz : i = ops.size := by
      have := congrArg List.length hl
      simp at this; omega
    subst hsz
    exact ⟨es, acc, ⟨st, sh, sn⟩, h1, rfl, h3, h4, h5, hx⟩
  | o :: r, i, ⟨st, sh, sn⟩, acc, es, hl, hi, h1, h2, h3, h4, h5, hx => by
    have ho' : ops.toList[i]? = some o := by
      have : (ops.toList.drop i)[0]? = some o := by rw [hl]; rfl
      rw [List.getElem?_drop] at this
      simpa using this
    have ho : ops[i]? = some o := by simpa using ho'
    have hlt : i < ops.size := (Array.getElem?_eq_some_iff.1 ho).1
    simp only [drawL] at hx
    obtain ⟨hd, hx⟩ := hx
    obtain ⟨e, k1, k23⟩ := opWF_cut hx
    have k2 : e.fresh ≤ 4 := by cases e; exact k23.1
    have k3 : drawL P nt ops n0 (i + 1) r (acc ++ [(touch (look st) sh o, e.ups.map (·.1))]) K ⟨putO o.dst e.val st, e.ups ++ sh, sn⟩ := by cases e; exact k23.2
    have hdst : (ops.toList.map (·.dst)).getD i none = o.dst := by
      rw [List.getD_eq_getElem?_getD, List.getElem?_map, ho']; rfl
    have hei : (es ++ [e])[i]? = some e := by rw [List.getElem?_append_right (by omega), h1]; simp
    refine drawL_out r (i + 1) ⟨putO o.dst e.val st, e.ups ++ sh, sn⟩ _ (es ++ [e]) ?_ hlt ?_ ?_ ?_ ?_ ?_ k3
    · rw [← List.drop_drop, hl]; rfl
    · rw [List.length_append, h1]; rfl
    · rw [List.length_append, h2]; rfl
    · have e1 := tS_app (f := f) (ds := ops.toList.map (·.dst)) (es := es) (L := fun _ => true) e i (by omega)
      simp only [tS, hei, hdst, e1, ← h3]
      exact look_put _ _ _
    · have e1 := hS_app (f := h) (es := es) (L := fun _ => true) e i (by omega)
      simp only [hS, hei, e1, ← h4]
      exact (upd_look _ _).symm
    · intro k hk
      by_cases hki : k < i
      · obtain ⟨o2, e2, q1, q2, q3, q4, q5, q6, q7⟩ := (h5 k hki).ok
        refine ⟨o2, e2, q1, by rw [List.getElem?_append_left (by omega)]; exact q2, q3, q4, q5, by rw [fp_app _ (by omega)]; exact q6, ?_⟩
        rw [fp_app _ (by omega), tS_app e k (by omega), hS_app e k (by omega)]
        exact q7
      · obtain rfl : k = i := by omega
        have hfp : fp (acc ++ [(touch (look st) sh o, e.ups.map (·.1))]) k = (touch (look st) sh o, e.ups.map (·.1)) := by
          unfold fp
          rw [List.getD_eq_getElem?_getD, List.getElem?_append_right (by omega), h2]; simp
        refine ⟨o, e, ho, hei, hd, hdst, k2, by rw [hfp], ?_⟩
        rw [hfp, tS_app e k (by omega), hS_app e k (by omega), ← h3, ← h4]
        exact k1
theorem MemOk.weakU {W : World} {N U U' F : Nat → Prop} {β : Nat → Option Bind} {h : Nat → Chunk} {w : World} (M : MemOk W N U F β h w) (hU : ∀ i, U i → U' i) : MemOk W N U' F β h w := by
  refine ⟨M.size, M.os, M.tape, M.output, M.frame, M.fin, fun id bd hb => hU _ (M.used id bd hb), fun id hd => ?_, M.dis, M.off⟩
  obtain ⟨bd, hb, hc⟩ := M.ch id hd
  exact ⟨bd, hb, hc.mono (E := ⟨hU, fun b hb => ⟨hb, rfl⟩, fun _ _ _ h => h⟩) (fun g _ => rfl)⟩
theorem MemOk.drew {W : World} {N U F : Nat → Prop} {β : Nat → Option Bind} {h : Nat → Chunk} {w w' : World} (M : MemOk W N U F β h w) (hh : w'.heap = w.heap) (ho : w'.os = w.os) (ht : w'.tape = w.tape) (hp : w'.output = w.output) : MemOk W N U F β h w' := by
  have E : Ext U F β w U F β w' := ⟨fun _ h => h, fun b hb => ⟨hb, by rw [hh]⟩, fun _ _ _ h => h⟩
  refine ⟨by rw [hh]; exact M.size, ho.trans M.os, ht.trans M.tape, hp.trans M.output, fun b hb hn => by rw [hh]; exact M.frame b hb hn, fun b hb => by rw [hh]; exact M.fin b hb, M.used, fun id hd => ?_, M.dis, fun i bd b hb hbb => by rw [hh]; exact M.off i bd b hb hbb⟩
  obtain ⟨bd, hb, hc⟩ := M.ch id hd
  exact ⟨bd, hb, hc.mono E (fun g _ => by rw [hh])⟩
/-- In the midst of the region: those that 'listed' tells have been carried out. -/
structure Mid (H : Hist) (n0 n : Nat) (f : Nat → AV) (h : Nat → Chunk) (ds : List (Option Tmp)) (es : List Eff) (L : Nat → Bool) (a : Act) (w : World) : Prop where
  ok : ∃ F β, MemOk H.W H.N (fun i => i < n0 ∨ ∃ k, k < n ∧ L k = true ∧ n0 + 4 * k ≤ i ∧ i < n0 + 4 * k + 4) F β (hS h es L n) w ∧
    (∀ t, RelA (fun i => i < n0 ∨ ∃ k, k < n ∧ L k = true ∧ n0 + 4 * k ≤ i ∧ i < n0 + 4 * k + 4) w F β (tS f ds es L n t) (a.tmps.getD t undef)) ∧
    (∀ b, H.F b → F b) ∧ (∀ b, F b → H.F b ∨ H.W.heap.size ≤ b ∨ H.N b) ∧ (∀ i bd, i < H.k → β i = some bd → H.β i = some bd)
  nt : a.tmps.size = H.nt
  d : a.defers = []
theorem tmps_put {U F : Nat → Prop} {β : Nat → Option Bind} {w : World} {a : Act} {f : Nat → AV} {nt : Nat} (ht : ∀ t, RelA U w F β (f t) (a.tmps.getD t undef)) (hnt : a.tmps.size = nt) {d : Option Tmp} (hd : dstOk nt d) {x : AV} {v : Value} (hx : RelA U w F β x v) (t : Nat) : RelA U w F β (updT f d x t) ((a.put d v).tmps.getD t undef) := by
  cases d with
  | none => simpa [updT, Act.put] using ht t
  | some d =>
    simp only [updT, Act.put, Option.some.injEq]
    by_cases h1 : d = t
    · subst h1
      rw [if_pos rfl]
      have : d < a.tmps.size := by rw [hnt]; exact hd
      rw [Array.getD_eq_getD_getElem?, Array.getElem?_setIfInBounds_self, if_pos this]
      exact hx
    · rw [if_neg h1, Array.getD_eq_getD_getElem?, Array.getElem?_setIfInBounds_ne h1, ← Array.getD_eq_getD_getElem?]
      exact ht t
theorem put_size (a : Act) (d : Option Tmp) (v : Value) : (a.put d v).tmps.size = a.tmps.size ∧ (a.put d v).defers = a.defers := by
  cases d <;> simp [Act.put]
theorem draw_run {P : Program} (hmix : P.follows .mixedOrders = true) {H : Hist} {s : St} {F : Nat → Prop} {β : Nat → Option Bind} {a : Act} {w : World} {ops : Array Oper} {Q : Exit → St → Prop} (id : Nat) (hx : DrawG P H.nt ops (Q .normal) s) (C : Conc H s F β a w) :
    (Code.region id ops true).wp P (Post H Q) a w := by
  obtain ⟨es, acc, s', hel, hn, ht, hh, hat, hok, hK⟩ := drawL_out (f := look s.t) (h := lookC s.h) ops.toList 0 s [] [] (by simp) (Nat.zero_le _) rfl rfl rfl rfl (fun k hk => by omega) hx
  refine wp_region_any hmix ?_
  -- what the check has shown
  unfold drawOk at hok
  simp only [Bool.and_eq_true] at hok
  obtain ⟨hedge, hpair⟩ := hok
  have edge : ∀ k o, ops[k]? = some o → ∀ e ∈ o.after, Region.binds .any e = true → e.on < k := by
    intro k o ho e he hb
    have hk : k < ops.size := (Array.getElem?_eq_some_iff.1 ho).1
    have := List.all_eq_true.1 hedge k (by simpa using hk)
    rw [ho] at this
    have := List.all_eq_true.1 this e (by simpa using he)
    rw [hb] at this
    simpa using this
  have pair : ∀ i j, i < j → j < ops.size → pairOk ops (masks ops.toList []) acc i j = true := by
    intro i j hij hj
    have := List.all_eq_true.1 hpair j (by simpa using hj)
    exact List.all_eq_true.1 this i (by simpa using hij)
  let n := ops.size
  let ds := ops.toList.map (·.dst)
  -- the induction
  have key : ∀ (fuel : Nat) (listed : Array Bool) (a : Act) (w : World), listed.size = n → Closed ops (fun i => listed.getD i false = true) → ((List.range n).filter fun i => !listed.getD i false).length = fuel →
      Mid H s.n n (look s.t) (lookC s.h) ds es (fun i => listed.getD i false) a w → wpAny P .any ops (Post H Q) fuel listed a w := by
    intro fuel
    have allDone : ∀ (listed : Array Bool) (a : Act) (w : World), (∀ i, i < n → listed.getD i false = true) → Mid H s.n n (look s.t) (lookC s.h) ds es (fun i => listed.getD i false) a w → Post H Q .normal a w := by
      intro listed a w hall M
      obtain ⟨F, β, M1, M2, M3, M4, M5⟩ := M.ok
      have e1 : ∀ t, tS (look s.t) ds es (fun i => listed.getD i false) n t = look s'.t t := by
        intro t
        rw [ht]
        exact tS_agree (fun k hk _ => hall k hk) n (Nat.le_refl _) (fun k h1 h2 => by omega)
      have e2 : hS (lookC s.h) es (fun i => listed.getD i false) n = lookC s'.h := by
        funext t
        rw [hh]
        exact hS_agree (fun k e hk _ _ => hall k hk) n (Nat.le_refl _) (fun k e h1 h2 => by omega)
      rw [e2] at M1
      have hU : ∀ i, (i < s.n ∨ ∃ k, k < n ∧ listed.getD k false = true ∧ s.n + 4 * k ≤ i ∧ i < s.n + 4 * k + 4) → i < s.n + 4 * ops.size := by
        rintro i (h | ⟨k, h1, _, h2, h3⟩)
        · omega
        · have : n = ops.size := rfl
          omega
      refine ⟨⟨s'.t, s'.h, s.n + 4 * ops.size⟩, F, β, ⟨fun t => ?_, M1.weakU hU, M.nt, M.d, M3, M4, M5, Nat.le_trans C.k (Nat.le_add_right _ _)⟩, hK⟩
      have := M2 t
      rw [e1 t] at this
      exact RelA.mono ⟨hU, fun b hb => ⟨hb, rfl⟩, fun _ _ _ h => h⟩ _ _ this
    induction fuel with
    | zero =>
      intro listed a w hsz hcl hf M
      have hall : ∀ i, i < n → listed.getD i false = true := by
        intro i hi
        have := List.eq_nil_of_length_eq_zero hf
        rw [List.filter_eq_nil_iff] at this
        have := this i (by simpa using hi)
        simpa using this
      refine ⟨?_, allDone listed a w hall M⟩
      apply List.eq_nil_iff_forall_not_mem.2
      intro j hj
      obtain ⟨h1, o, ho, _⟩ := mem_ready.1 hj
      have hjn : j < n := (Array.getElem?_eq_some_iff.1 ho).1
      have := hall j hjn
      rw [Array.getD_eq_getD_getElem?] at this h1
      have hjs : j < listed.size := by omega
      rw [Array.getElem?_eq_getElem hjs] at this h1
      simp only [Option.getD_some] at this h1
      rw [this] at h1; simp at h1
    | succ fuel ih =>
      intro listed a w hsz hcl hf M
      have gd : ∀ i, i < n → listed.getD i true = listed.getD i false := by
        intro i hi
        have hjs : i < listed.size := by omega
        rw [Array.getD_eq_getD_getElem?, Array.getD_eq_getD_getElem?, Array.getElem?_eq_getElem hjs]; rfl
      refine ⟨fun hr => ?_, fun i hi => ?_⟩
      · -- nobody may come up: all are done
        refine allDone listed a w ?_ M
        intro i
        induction i using Nat.strongRecOn with
        | _ i ihi =>
          intro hi
          cases hLi : listed.getD i false with
          | true => rfl
          | false =>
            exfalso
            have ho : ops[i]? = some ops[i] := Array.getElem?_eq_getElem hi
            have hm : i ∈ Region.ready .any ops listed := mem_ready.2 ⟨by rw [gd i hi]; exact hLi, _, ho, fun e he hb => ihi e.on (edge i _ ho e he hb) (by have := edge i _ ho e he hb; omega)⟩
            rw [hr] at hm
            simp at hm
      · -- number i comes up
        obtain ⟨hun, oi, hoi, hpre⟩ := mem_ready.1 hi
        have hin : i < n := (Array.getElem?_eq_some_iff.1 hoi).1
        rw [gd i hin] at hun
        obtain ⟨F, β, M1, M2, M3, M4, M5⟩ := M.ok
        obtain ⟨o, e, q1, q2, q3, q4, q5, q6, q7⟩ := (hat i hin).ok
        rw [hoi] at q1
        cases q1
        -- those that are ordered
        have hcl' : Closed ops (fun k => listed.getD k false = true ∨ k = i) := by
          intro k ok hk hE e' he' hb'
          rcases hE with hE | rfl
          · exact .inl (hcl k ok hk hE e' he' hb')
          · rw [hoi] at hk; cases hk
            exact .inl (hpre e' he' hb')
        have before : ∀ k, k < i → ((masks ops.toList []).getD i 0).testBit k = true → listed.getD k false = true := by
          intro k hk hb
          have := masks_spec hcl' ops.toList [] (by simp) (by intro i j h; simp at h) i k hb (.inr rfl)
          rcases this with h | h
          · exact h
          · omega
        have after : ∀ k, i < k → listed.getD k false = true → ((masks ops.toList []).getD k 0).testBit i = true → False := by
          intro k hk hL hb
          have := masks_spec hcl ops.toList [] (by simp) (by intro i j h; simp at h) k i hb hL
          rw [hun] at this; simp at this
        have apart_lt : ∀ k ok, k < i → ops[k]? = some ok → listed.getD k false = false → Oper.apart ops ok oi = true ∧ disj (fp acc k).2 ((fp acc i).1 ++ (fp acc i).2) = true := by
          intro k ok hk hok hL
          have := pair k i hk hin
          unfold pairOk at this
          rw [Bool.or_eq_true] at this
          rcases this with h | h
          · have := before k hk h; rw [hL] at this; simp at this
          · simp only [hok, hoi, Bool.and_eq_true] at h
            exact ⟨h.1.1, h.1.2⟩
        have apart_gt : ∀ k ok, i < k → k < n → ops[k]? = some ok → listed.getD k false = true → Oper.apart ops oi ok = true ∧ disj (fp acc i).2 ((fp acc k).1 ++ (fp acc k).2) = true ∧ (disj (fp acc i).1 (fp acc k).2 = true ∨ lkOk ops acc i k = true) := by
          intro k ok hk hkn hok hL
          have := pair i k hk hkn
          unfold pairOk at this
          rw [Bool.or_eq_true] at this
          rcases this with h | h
          · exact (after k hk hL h).elim
          · simp only [hok, hoi, Bool.and_eq_true, Bool.or_eq_true] at h
            exact ⟨h.1.1, h.1.2, h.2⟩
        have dsk : ∀ k t, ds.getD k none = some t → ∃ ok, ops[k]? = some ok ∧ ok.dst = some t ∧ k < n := by
          intro k t hk
          rw [List.getD_eq_getElem?_getD, List.getElem?_map] at hk
          cases ho : ops.toList[k]? with
          | none => rw [ho] at hk; simp at hk
          | some ok =>
            rw [ho] at hk
            have ho' : ops[k]? = some ok := by simpa using ho
            exact ⟨ok, ho', by simpa using hk, (Array.getElem?_eq_some_iff.1 ho').1⟩
        have fpk : ∀ k e2, k < n → es[k]? = some e2 → (fp acc k).2 = e2.ups.map (·.1) := by
          intro k e2 hk he2
          obtain ⟨_, e3, _, p2, _, _, _, p6, _⟩ := (hat k hk).ok
          rw [he2] at p2; cases p2; exact p6
        have opk : ∀ k, k < n → ∃ ok, ops[k]? = some ok := fun k hk => ⟨_, Array.getElem?_eq_getElem hk⟩
        -- the temporaries that it looks at
        have agT : ∀ t ∈ oi.looksAt ops, tS (look s.t) ds es (fun i => listed.getD i false) n t = tS (look s.t) ds es (fun _ => true) i t := by
          intro t htl
          refine tS_agree (fun k hk hd => ?_) n (Nat.le_of_lt hin) (fun k h1 h2 hd => ?_)
          · obtain ⟨ok, hok, hdk, _⟩ := dsk k t hd
            cases hL : listed.getD k false with
            | true => rfl
            | false => exact ((Oper.apart_spec (apart_lt k ok hk hok hL).1).1 t hdk htl).elim
          · obtain ⟨ok, hok, hdk, _⟩ := dsk k t hd
            by_cases hki : k = i
            · subst hki; exact hun
            · cases hL : listed.getD k false with
              | false => rfl
              | true => exact ((Oper.apart_spec (apart_gt k ok (by omega) h2 hok hL).1).2.2 t hdk htl).elim
        -- the memory that it looks at
        have agH : ∀ t ∈ (fp acc i).1, hS (lookC s.h) es (fun i => listed.getD i false) n t = hS (lookC s.h) es (fun _ => true) i t ∨ (isLk oi = true ∧ OpenC (hS (lookC s.h) es (fun _ => true) i t) (hS (lookC s.h) es (fun i => listed.getD i false) n t)) := by
          intro t htl
          by_cases hex : ∃ k e2, i < k ∧ k < n ∧ es[k]? = some e2 ∧ t ∈ e2.ups.map (·.1) ∧ listed.getD k false = true
          · obtain ⟨k, e2, hik, hkn, he2, htk, hLk⟩ := hex
            have lk : ∀ k e2, i < k → k < n → es[k]? = some e2 → t ∈ e2.ups.map (·.1) → listed.getD k false = true → lkOk ops acc i k = true := by
              intro k e2 hik hkn he2 htk hLk
              obtain ⟨ok, hok⟩ := opk k hkn
              rcases (apart_gt k ok hik hkn hok hLk).2.2 with h | h
              · exact (disj_iff h t htl (by rw [fpk k e2 hkn he2]; exact htk)).elim
              · exact h
            have lkk := lk k e2 hik hkn he2 htk hLk
            obtain ⟨ok, hok⟩ := opk k hkn
            have mid : ∀ k m e3, lkOk ops acc i k = true → i < m → m < k → m < n → es[m]? = some e3 → t ∉ e3.ups.map (·.1) := by
              intro k m e3 hl h1 h2 h3 h4 h5
              unfold lkOk at hl
              rw [Bool.and_eq_true] at hl
              have := List.all_eq_true.1 hl.2 m (by simpa using h2)
              rw [Bool.or_eq_true] at this
              rcases this with h | h
              · have := Nat.le_of_ble_eq_true h; omega
              · exact disj_iff h t htl (by rw [fpk m e3 h3 h4]; exact h5)
            have uniq : ∀ k' e3, i < k' → k' < n → es[k']? = some e3 → t ∈ e3.ups.map (·.1) → listed.getD k' false = true → k' = k := by
              intro k' e3 h1 h2 h3 h4 h5
              rcases Nat.lt_trichotomy k' k with h | h | h
              · exact (mid k k' e3 lkk h1 h h2 h3 h4).elim
              · exact h
              · exact (mid k' k e2 (lk k' e3 h1 h2 h3 h4 h5) hik h hkn he2 htk).elim
            unfold lkOk at lkk
            rw [Bool.and_eq_true, hoi, hok] at lkk
            simp only [Bool.and_eq_true] at lkk
            obtain ⟨⟨isl, isn⟩, _⟩ := lkk
            refine .inr ⟨isl, ?_⟩
            obtain ⟨ok', e3, p1, p2, _, _, _, p6, p7⟩ := (hat k hkn).ok
            rw [hok] at p1; cases p1
            rw [he2] at p2; cases p2
            obtain ⟨id, a', n', es', l, r1, r2⟩ := entry_ups isn p7
            have hti : t = id := by rw [r2] at htk; simpa using htk
            subst hti
            have r3 : hS (lookC s.h) es (fun _ => true) k t = .mp a' n' es' := by
              unfold onlyC at r1
              split at r1
              · exact r1
              · simp at r1
            have r4 : hS (lookC s.h) es (fun _ => true) k t = hS (lookC s.h) es (fun _ => true) i t := by
              refine hS_stay k (Nat.le_of_lt hik) (fun m e4 h1 h2 h3 h4 => ?_)
              exfalso
              by_cases hmi : m = i
              · subst hmi
                have := disj_iff (apart_gt k ok hik hkn hok hLk).2.1 t (by rw [fpk m e4 hin h3]; exact h4)
                exact this (List.mem_append_right _ (by rw [p6]; exact htk))
              · exact mid k m e4 (lk k e2 hik hkn he2 htk hLk) (by omega) h2 (by omega) h3 h4
            have r5 : hS (lookC s.h) es (fun i => listed.getD i false) n t = hS (lookC s.h) es (fun i => listed.getD i false) (k + 1) t := by
              refine hS_stay n hkn (fun m e4 h1 h2 h3 h4 => ?_)
              cases hLm : listed.getD m false with
              | false => rfl
              | true => have := uniq m e4 (by omega) h2 h3 h4 hLm; omega
            have r6 : hS (lookC s.h) es (fun i => listed.getD i false) (k + 1) t = .mp a' n' (mopen l es') := by
              simp only [hS, hLk, he2, r2, upd, if_true]
            exact .inr ⟨a', n', es', l, r4.symm.trans r3, r5.trans r6⟩
          · refine .inl (hS_agree (fun k e2 hk he2 hd => ?_) n (Nat.le_of_lt hin) (fun k e2 h1 h2 he2 hd => ?_))
            · obtain ⟨ok, hok⟩ := opk k (by omega)
              cases hL : listed.getD k false with
              | true => rfl
              | false =>
                have := disj_iff (apart_lt k ok hk hok hL).2 t (by rw [fpk k e2 (by omega) he2]; exact hd)
                exact (this (List.mem_append_left _ htl)).elim
            · by_cases hki : k = i
              · subst hki; exact hun
              · cases hL : listed.getD k false with
                | false => rfl
                | true => exact (hex ⟨k, e2, by omega, h2, he2, hd, hL⟩).elim
        have q7' : opWF P ops oi (tS (look s.t) ds es (fun _ => true) i) (onlyC (fp acc i).1 (hS (lookC s.h) es (fun i => listed.getD i false) n)) (s.n + 4 * i) (· = e) := by
          cases isl : isLk oi with
          | true =>
            refine opWF_open isl (fun t => ?_) q7
            unfold onlyC
            cases hm : memN (fp acc i).1 t with
            | false => exact .inl rfl
            | true =>
              rcases agH t (memN_iff.1 hm) with h | h
              · exact .inl h
              · exact h.2
          | false =>
            have : onlyC (fp acc i).1 (hS (lookC s.h) es (fun i => listed.getD i false) n) = onlyC (fp acc i).1 (hS (lookC s.h) es (fun _ => true) i) := by
              funext t
              unfold onlyC
              cases hm : memN (fp acc i).1 t with
              | false => rfl
              | true =>
                rcases agH t (memN_iff.1 hm) with h | h
                · exact h
                · rw [isl] at h; simp at h
            rw [this]; exact q7
        have hsub : ∀ id, onlyC (fp acc i).1 (hS (lookC s.h) es (fun i => listed.getD i false) n) id ≠ .dead → onlyC (fp acc i).1 (hS (lookC s.h) es (fun i => listed.getD i false) n) id = hS (lookC s.h) es (fun i => listed.getD i false) n id := by
          intro id hne
          unfold onlyC at hne ⊢
          cases hm : memN (fp acc i).1 id with
          | false => rw [hm] at hne; exact (hne rfl).elim
          | true => rfl
        have hLset : (fun k => (listed.setIfInBounds i true).getD k false) = setL (fun k => listed.getD k false) i := by
          funext k
          unfold setL
          by_cases hki : k = i
          · subst hki
            have : k < listed.size := by omega
            simp [this]
          · rw [if_neg hki, getD_set_ne false (Ne.symm hki)]
        have hUnot : ∀ x, s.n + 4 * i ≤ x → x < s.n + 4 * i + 4 → ¬ (x < s.n ∨ ∃ k, k < n ∧ listed.getD k false = true ∧ s.n + 4 * k ≤ x ∧ x < s.n + 4 * k + 4) := by
          rintro x h1 h2 (h | ⟨k, h3, h4, h5, h6⟩)
          · omega
          · have : k = i := by omega
            subst this
            rw [hun] at h4; simp at h4
        have fin := opWF_run (a := a) (Q := Post H Q) (next := wpAny P .any ops (Post H Q) fuel (listed.setIfInBounds i true)) (hT := onlyC (fp acc i).1 (hS (lookC s.h) es (fun i => listed.getD i false) n)) M1 hsub (hUnot _ (Nat.le_refl _) (by omega)) (o := oi)
          (f := tS (look s.t) ds es (fun _ => true) i) (fun t htl => by rw [← agT t htl]; exact M2 t) (fun e' he' x h1 h2 => by subst he'; exact hUnot x h1 (by omega)) q7' (by
          rintro e' v w' rfl S
          refine ih _ _ _ (by simpa using hsz) ?_ ?_ ?_
          · intro k ok hk hE e2 he2 hb2
            rw [congrFun hLset k] at hE
            show (fun k => (listed.setIfInBounds i true).getD k false) e2.on = true
            rw [hLset]
            unfold setL at hE ⊢
            by_cases h1 : e2.on = i
            · rw [if_pos h1]
            · rw [if_neg h1]
              by_cases hki : k = i
              · subst hki
                rw [hoi] at hk; cases hk
                exact hpre e2 he2 hb2
              · rw [if_neg hki] at hE
                exact hcl k ok hk hE e2 he2 hb2
          · have cnt : ∀ (l : List Nat), l.Nodup → i ∈ l → (l.filter fun k => !listed.getD k false).length = (l.filter fun k => !(listed.setIfInBounds i true).getD k false).length + 1 := by
              intro l
              induction l with
              | nil => intro _ h; simp at h
              | cons x r ihr =>
                intro hnd hmem
                have hx := congrFun hLset x
                simp only [setL] at hx
                rw [List.nodup_cons] at hnd
                by_cases hxi : x = i
                · subst hxi
                  rw [if_pos rfl] at hx
                  rw [List.filter_cons, List.filter_cons, hun, hx]
                  simp only [Bool.not_false, Bool.not_true, if_true, Bool.false_eq_true, if_false, List.length_cons]
                  congr 2
                  apply List.filter_congr
                  intro y hy
                  have hyx : y ≠ x := fun h => hnd.1 (h ▸ hy)
                  have := congrFun hLset y
                  simp only [setL, if_neg hyx] at this
                  rw [this]
                · rw [if_neg hxi] at hx
                  have := ihr hnd.2 ((List.mem_cons.1 hmem).resolve_left (Ne.symm hxi))
                  rw [List.filter_cons, List.filter_cons, hx]
                  split
                  · simp only [List.length_cons, this]
                  · exact this
            have := cnt (List.range n) List.nodup_range (by simpa using hin)
            omega
          · obtain ⟨F', β', S1, S2, S3, S4⟩ := S
            have eT := tS_insert (f := look s.t) (ds := ds) (L := fun k => listed.getD k false) hun q2 n hin (fun k t h1 h2 h3 h4 => by
              obtain ⟨ok, hok, hdk, _⟩ := dsk k t h4
              rw [q4]
              intro h5
              exact (Oper.apart_spec (apart_gt k ok h1 h2 hok h3).1).2.1 t h5 hdk)
            have eH := hS_insert (h := lookC s.h) (L := fun k => listed.getD k false) hun q2 n hin (fun k e2 t h1 h2 h3 h4 h5 h6 => by
              obtain ⟨ok, hok⟩ := opk k h2
              have := disj_iff (apart_gt k ok h1 h2 hok h3).2.1 t (by rw [q6]; exact h6)
              exact this (List.mem_append_right _ (by rw [fpk k e2 h2 h4]; exact h5)))
            have hU' : ∀ x, ((x < s.n ∨ ∃ k, k < n ∧ listed.getD k false = true ∧ s.n + 4 * k ≤ x ∧ x < s.n + 4 * k + 4) ∨ (s.n + 4 * i ≤ x ∧ x < s.n + 4 * i + e'.fresh)) → (x < s.n ∨ ∃ k, k < n ∧ setL (fun k => listed.getD k false) i k = true ∧ s.n + 4 * k ≤ x ∧ x < s.n + 4 * k + 4) := by
              rintro x ((h | ⟨k, h1, h2, h3⟩) | ⟨h1, h2⟩)
              · exact .inl h
              · refine .inr ⟨k, h1, ?_, h3⟩
                unfold setL
                by_cases hki : k = i
                · rw [if_pos hki]
                · rw [if_neg hki]; exact h2
              · exact .inr ⟨i, hin, by unfold setL; rw [if_pos rfl], h1, by omega⟩
            have hU'' : ∀ x, ((x < s.n ∨ ∃ k, k < n ∧ listed.getD k false = true ∧ s.n + 4 * k ≤ x ∧ x < s.n + 4 * k + 4) ∨ (s.n + 4 * i ≤ x ∧ x < s.n + 4 * i + e'.fresh)) → (x < s.n ∨ ∃ k, k < n ∧ (listed.setIfInBounds i true).getD k false = true ∧ s.n + 4 * k ≤ x ∧ x < s.n + 4 * k + 4) := by
              intro x hx
              rcases hU' x hx with h | ⟨k, h1, h2, h3⟩
              · exact .inl h
              · exact .inr ⟨k, h1, (congrFun hLset k).trans h2, h3⟩
            refine ⟨⟨F', β', ?_, fun t => ?_, fun b hb => (S2.f b (M3 b hb)).1, fun b hb => ?_, fun j bd hj hb => ?_⟩, by rw [(put_size a oi.dst v).1]; exact M.nt, by rw [(put_size a oi.dst v).2]; exact M.d⟩
            · rw [hLset, eH]
              exact S1.weakU hU''
            · rw [hLset, eT, q4]
              have := tmps_put (x := e'.val) (v := v) (fun t => RelA.mono S2 _ _ (M2 t)) M.nt q3 S3 t
              exact RelA.mono ⟨hU'', fun b hb => ⟨hb, rfl⟩, fun _ _ _ h => h⟩ _ _ this
            · rcases S4 b hb with h | h
              · exact M4 b h
              · exact .inr h
            · exact M5 j bd hj (S2.e j bd (.inl (Nat.lt_of_lt_of_le hj C.k)) hb))
        unfold wpOp
        rw [hoi]
        exact fin
  refine key ops.size _ a _ (by simp [n]) ?_ ?_ ?_
  · intro i o _ hE
    exfalso
    rw [Array.getD_eq_getD_getElem?] at hE
    by_cases hi : i < ops.size
    · simp [hi] at hE
    · simp [hi] at hE
  · have : (List.range n).filter (fun i => !(Array.replicate ops.size false).getD i false) = List.range n := by
      apply List.filter_eq_self.2
      intro i hi
      have hi' : i < ops.size := by simpa using hi
      simp [hi']
    rw [this]; simp [n]
  · have hL : (fun i => (Array.replicate ops.size false).getD i false) = fun _ => false := by
      funext i
      rw [Array.getD_eq_getD_getElem?]
      by_cases hi : i < ops.size
      · simp [hi]
      · simp [hi]
    have t0 : ∀ k, tS (look s.t) ds es (fun _ => false) k = look s.t := by
      intro k
      induction k with
      | zero => rfl
      | succ k ih => simp only [tS]; exact ih
    have h0 : ∀ k, hS (lookC s.h) es (fun _ => false) k = lookC s.h := by
      intro k
      induction k with
      | zero => rfl
      | succ k ih => simp only [hS]; exact ih
    have hU0 : ∀ x, x < s.n → (x < s.n ∨ ∃ k, k < n ∧ (Array.replicate ops.size false).getD k false = true ∧ s.n + 4 * k ≤ x ∧ x < s.n + 4 * k + 4) := fun x hx => .inl hx
    refine ⟨⟨F, β, ?_, fun t => ?_, C.f, C.g, C.e⟩, C.nt, C.d⟩
    · rw [hL, h0]
      exact (C.m.drew (w' := { w with drawn := w.drawn + 1 }) rfl rfl rfl rfl).weakU (fun x hx => .inl hx)
    · rw [hL, t0]
      have E : Ext (· < s.n) F β w (fun i => i < s.n ∨ ∃ k, k < n ∧ (Array.replicate ops.size false).getD k false = true ∧ s.n + 4 * k ≤ i ∧ i < s.n + 4 * k + 4) F β { w with drawn := w.drawn + 1 } := ⟨fun x hx => .inl hx, fun b hb => ⟨hb, rfl⟩, fun _ _ _ h => h⟩
      exact RelA.mono E _ _ (C.t t)
end Go.Proofs.Ytibknlfadoeglaa
