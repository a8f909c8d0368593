/- Lemmas for the proof of storyShows.proved. -/
import Derived.Test.YtllmjdcblfkfaaaGreatShowM3
import Derived.Test.YtllmjdcblfkfaaaGreatProg
import Derived.WalkKit
import Derived.Handy
import Derived.WalkSpells
import Derived.WalkLawsBesides
import Derived.Lib.Hide
import Derived.Lib.BitFns
import Derived.Laws.BitsAllLaws
import Derived.Laws.AppendOwnNone
import Derived.Lib.SliceRun
import Derived.Deep.Draws
import Derived.Deep.QuietTactic
import Derived.ProofKit
import Derived.OpenShut
import Derived.ShutString
import Derived.ChangeOld
import Derived.Below
import Derived.Deep.Slices
import Derived.Lib.VarintBits
import Derived.Lib.ConvBytes
import Derived.Laws.IdiomStrings
import Derived.Shelf.Strings.Builder1
import Derived.Shelf.Small.Bits
import Derived.Shelf.Strings.BuilderF
import Derived.Shelf.Strconv.Itoa0
import Derived.Shelf.Bits.Mul64
import Derived.Ground.Names2Prog
import Derived.Shelf.Slices.Clone
import Derived.Ground.SlgnProg
import Derived.Shelf.SlicesE.Clone
import Derived.BigQuiet
import Derived.Laws.Concat
import Derived.Lib.Zigzag
import Derived.Laws.BytesString
import Derived.Lib.Varint
import Derived.Deep.RegionHeld3
import Derived.Laws.Externs
import Derived.Laws.IdiomCopy
namespace Go.Proofs.YtllmjdcblfkfaaaGreat
set_option linter.all false
open Go.RowKit
section
variable {P : Program} {W : World} {N U F : Nat → Prop} {β : Nat → Option Bind} {h hT : Nat → Chunk} {w : World} {a : Act} {m : Nat}
theorem opX_cut {g : Operand → AV} {K : Eff → Prop} {op : Op} (hx : opX P g hT m K op) : ∃ e, opX P g hT m (· = e) op ∧ K e := by
 unfold opX at hx ⊢
 split at hx
 ·split at hx
  ·obtain ⟨e, h1, h2⟩ := hx
   exact ⟨e, ⟨e, h1, rfl⟩, h2⟩
  ·exact hx.elim
 ·split at hx
  ·obtain ⟨h0, e, h1, h2⟩ := hx
   exact ⟨e, ⟨h0, e, h1, rfl⟩, h2⟩
  ·exact hx.elim
 ·split at hx
  ·exact ⟨_, ⟨hx.1, rfl⟩, hx.2⟩
  ·exact hx.elim
theorem opG_cut {c : Bool} {g : Operand → AV} {K : Eff → Prop} {op : Op} (hx : opG P c g hT m K op) : ∃ e, opG P c g hT m (· = e) op ∧ K e := by
 unfold opG at hx ⊢
 split at hx
 ·split at hx
  ·rcases hx with ⟨r, h1, h2⟩ | ⟨h1, h2⟩
   ·exact ⟨_, .inl ⟨r, h1, rfl⟩, h2⟩
   ·cases c with
    | true =>
     obtain ⟨h3, e, h4, h5⟩ := h1 rfl
     exact ⟨e, .inr ⟨fun _ => ⟨h3, e, h4, rfl⟩, fun h => by simp at h⟩, h5⟩
    | false => exact ⟨_, .inr ⟨fun h => by simp at h, fun _ => rfl⟩, h2 rfl⟩
  ·exact ⟨_, ⟨hx.1, rfl⟩, hx.2⟩
 ·split at hx
  ·rcases hx with ⟨r, h1, h2⟩ | ⟨h1, h2⟩
   ·exact ⟨_, .inl ⟨r, h1, rfl⟩, h2⟩
   ·cases c with
    | true =>
     obtain ⟨h3, e, h4, h5⟩ := h1 rfl
     exact ⟨e, .inr ⟨fun _ => ⟨h3, e, h4, rfl⟩, fun h => by simp at h⟩, h5⟩
    | false => exact ⟨_, .inr ⟨fun h => by simp at h, fun _ => rfl⟩, h2 rfl⟩
  ·exact ⟨_, ⟨hx.1, rfl⟩, hx.2⟩
 ·split at hx
  ·split at hx
   ·exact ⟨_, ⟨hx.1, rfl⟩, hx.2⟩
   ·exact ⟨_, ⟨hx.1, rfl⟩, hx.2⟩
  ·exact ⟨_, ⟨hx.1, rfl⟩, hx.2⟩
 ·split at hx
  ·exact ⟨_, ⟨hx.1, rfl⟩, hx.2⟩
  ·cases c with
   | true => exact ⟨_, ⟨fun hc => ⟨(hx.1 hc).1, (hx.1 hc).2.1, rfl⟩, fun h => by simp at h⟩, (hx.1 rfl).2.2⟩
   | false => exact ⟨_, ⟨fun h => by simp at h, fun _ => rfl⟩, hx.2 rfl⟩
  ·exact ⟨_, ⟨hx.1, rfl⟩, hx.2⟩
theorem opWF_cut {ops : Array Oper} {o : Oper} {f : Nat → AV} {K : Eff → Prop} (hx : opWF P ops o f hT m K) : ∃ e, opWF P ops o f hT m (· = e) ∧ K e := by
 unfold opWF at hx ⊢
 split at hx
 ·exact opX_cut hx
 ·split at hx
  ·exact hx.elim
  ·exact opG_cut hx
end
def updT (f : Nat → AV) (d : Option Tmp) (v : AV) (t : Nat) : AV := if d = some t then v else f t
def tS (f : Nat → AV) (ds : List (Option Tmp)) (es : List Eff) (L : Nat → Bool) : Nat → Nat → AV
 | 0 => f
 | k + 1 => match L k, es[k]? with
  | true, some e => updT (tS f ds es L k) (ds.getD k none) e.val
  | _, _ => tS f ds es L k
def hS (h : Nat → Chunk) (es : List Eff) (L : Nat → Bool) : Nat → Nat → Chunk
 | 0 => h
 | k + 1 => match L k, es[k]? with
  | true, some e => upd (hS h es L k) e.ups
  | _, _ => hS h es L k
theorem upd_in {h : Nat → Chunk} : ∀ {ups : List (Nat × Chunk)} {i : Nat}, i ∉ ups.map (·.1) → upd h ups i = h i
 | [], _, _ => rfl
 | (k, c) :: r, i, hn => by
  simp only [List.map_cons, List.mem_cons, not_or] at hn
  simp only [upd]
  rw [if_neg (Ne.symm hn.1)]
  exact upd_in hn.2
theorem upd_same {h h' : Nat → Chunk} : ∀ {ups : List (Nat × Chunk)} {i : Nat}, i ∈ ups.map (·.1) → upd h ups i = upd h' ups i
 | [], _, hn => by simp at hn
 | (k, c) :: r, i, hn => by
  simp only [upd]
  by_cases e : k = i
  ·rw [if_pos e, if_pos e]
  ·rw [if_neg e, if_neg e]
   simp only [List.map_cons, List.mem_cons] at hn
   exact upd_same (hn.resolve_left (Ne.symm e))
section
variable {f : Nat → AV} {h : Nat → Chunk} {ds : List (Option Tmp)} {es : List Eff}
theorem tS_agree {L : Nat → Bool} {t i : Nat} (hlt : ∀ k, k < i → ds.getD k none = some t → L k = true) : ∀ n, i ≤ n → (∀ k, i ≤ k → k < n → ds.getD k none = some t → L k = false) → tS f ds es L n t = tS f ds es (fun _ => true) i t := by
 have lo : ∀ k, k ≤ i → tS f ds es L k t = tS f ds es (fun _ => true) k t := by
  intro k
  induction k with
  | zero => intro _; rfl
  | succ k ih =>
   intro hk
   have ih := ih (by omega)
   simp only [tS]
   cases hL : L k with
   | true =>
    cases he : es[k]? with
    | none => exact ih
    | some e => simp only [updT]; rw [ih]
   | false =>
    have hd : ds.getD k none ≠ some t := fun h => by have := hlt k (by omega) h; rw [hL] at this; simp at this
    cases he : es[k]? with
    | none => exact ih
    | some e => simp only [updT]; rw [if_neg hd]; exact ih
 intro n
 induction n with
 | zero => intro hi _; have : i = 0 := by omega
           subst this; rfl
 | succ n ih =>
  intro hi hgt
  by_cases e : i = n + 1
  ·subst e; exact lo _ (Nat.le_refl _)
  ·have ih := ih (by omega) (fun k h1 h2 => hgt k h1 (by omega))
   simp only [tS]
   cases hL : L n with
   | false => exact ih
   | true =>
    have hd : ds.getD n none ≠ some t := fun h => by have := hgt n (by omega) (by omega) h; rw [hL] at this; simp at this
    cases he : es[n]? with
    | none => exact ih
    | some e => simp only [updT]; rw [if_neg hd]; exact ih
theorem hS_agree {L : Nat → Bool} {t i : Nat} (hlt : ∀ k e, k < i → es[k]? = some e → t ∈ e.ups.map (·.1) → L k = true) : ∀ n, i ≤ n → (∀ k e, i ≤ k → k < n → es[k]? = some e → t ∈ e.ups.map (·.1) → L k = false) → hS h es L n t = hS h es (fun _ => true) i t := by
 have lo : ∀ k, k ≤ i → hS h es L k t = hS h es (fun _ => true) k t := by
  intro k
  induction k with
  | zero => intro _; rfl
  | succ k ih =>
   intro hk
   have ih := ih (by omega)
   simp only [hS]
   cases he : es[k]? with
   | none => cases hL : L k <;> exact ih
   | some e =>
    by_cases hd : t ∈ e.ups.map (·.1)
    ·rw [hlt k e (by omega) he hd]
     exact upd_same hd
    ·cases hL : L k with
     | true => simp only [upd_in hd]; exact ih
     | false => simp only [upd_in hd]; exact ih
 intro n
 induction n with
 | zero => intro hi _; have : i = 0 := by omega
           subst this; rfl
 | succ n ih =>
  intro hi hgt
  by_cases e : i = n + 1
  ·subst e; exact lo _ (Nat.le_refl _)
  ·have ih := ih (by omega) (fun k e h1 h2 => hgt k e h1 (by omega))
   simp only [hS]
   cases he : es[n]? with
   | none => cases hL : L n <;> exact ih
   | some e =>
    cases hL : L n with
    | false => exact ih
    | true =>
     have hd : t ∉ e.ups.map (·.1) := fun h => by have := hgt n e (by omega) (by omega) he h; rw [hL] at this; simp at this
     simp only [upd_in hd]; exact ih
def setL (L : Nat → Bool) (i : Nat) (k : Nat) : Bool := if k = i then true else L k
theorem tS_insert {L : Nat → Bool} {i : Nat} (hi : L i = false) {e : Eff} (he : es[i]? = some e) : ∀ n, i < n → (∀ k t, i < k → k < n → L k = true → ds.getD k none = some t → ds.getD i none ≠ some t) → tS f ds es (setL L i) n = updT (tS f ds es L n) (ds.getD i none) e.val := by
 have lo : ∀ k, k ≤ i → tS f ds es (setL L i) k = tS f ds es L k := by
  intro k
  induction k with
  | zero => intro _; rfl
  | succ k ih =>
   intro hk
   have e1 : setL L i k = L k := by unfold setL; rw [if_neg (by omega)]
   simp only [tS, e1, ih (by omega)]
 intro n
 induction n with
 | zero => intro h; omega
 | succ n ih =>
  intro hn hd
  by_cases e' : i = n
  ·subst e'
   have e1 : setL L i i = true := by unfold setL; rw [if_pos rfl]
   simp only [tS, e1, hi, he, lo i (Nat.le_refl _)]
  ·have ih := ih (by omega) (fun k t h1 h2 => hd k t h1 (by omega))
   have e1 : setL L i n = L n := by unfold setL; rw [if_neg (by omega)]
   simp only [tS, e1, ih]
   cases hL : L n with
   | false => rfl
   | true =>
    cases hen : es[n]? with
    | none => rfl
    | some e2 =>
     funext t
     simp only [updT]
     by_cases h1 : ds.getD n none = some t
     ·rw [if_pos h1, if_pos h1, if_neg (hd n t (by omega) (by omega) hL h1)]
     ·rw [if_neg h1, if_neg h1]
theorem hS_insert {L : Nat → Bool} {i : Nat} (hi : L i = false) {e : Eff} (he : es[i]? = some e) : ∀ n, i < n → (∀ k e2 t, i < k → k < n → L k = true → es[k]? = some e2 → t ∈ e2.ups.map (·.1) → t ∉ e.ups.map (·.1)) → hS h es (setL L i) n = upd (hS h es L n) e.ups := by
 have lo : ∀ k, k ≤ i → hS h es (setL L i) k = hS h es L k := by
  intro k
  induction k with
  | zero => intro _; rfl
  | succ k ih =>
   intro hk
   have e1 : setL L i k = L k := by unfold setL; rw [if_neg (by omega)]
   simp only [hS, e1, ih (by omega)]
 intro n
 induction n with
 | zero => intro h; omega
 | succ n ih =>
  intro hn hd
  by_cases e' : i = n
  ·subst e'
   have e1 : setL L i i = true := by unfold setL; rw [if_pos rfl]
   simp only [hS, e1, hi, he, lo i (Nat.le_refl _)]
  ·have ih := ih (by omega) (fun k e2 t h1 h2 => hd k e2 t h1 (by omega))
   have e1 : setL L i n = L n := by unfold setL; rw [if_neg (by omega)]
   simp only [hS, e1, ih]
   cases hL : L n with
   | false => rfl
   | true =>
    cases hen : es[n]? with
    | none => rfl
    | some e2 =>
     funext t
     show upd (upd (hS h es L n) e.ups) e2.ups t = upd (upd (hS h es L n) e2.ups) e.ups t
     by_cases h1 : t ∈ e2.ups.map (·.1)
     ·have h2 := hd n e2 t (by omega) (by omega) hL hen h1
      rw [upd_in (h := upd (hS h es L n) e2.ups) h2]
      exact upd_same h1
     ·rw [upd_in h1]
      by_cases h2 : t ∈ e.ups.map (·.1)
      ·exact upd_same h2
      ·rw [upd_in h2, upd_in h2, upd_in h1]
end
theorem hS_stay {h : Nat → Chunk} {es : List Eff} {L : Nat → Bool} {t i : Nat} : ∀ n, i ≤ n → (∀ k e, i ≤ k → k < n → es[k]? = some e → t ∈ e.ups.map (·.1) → L k = false) → hS h es L n t = hS h es L i t := by
 intro n
 induction n with
 | zero => intro hi _; have : i = 0 := by omega
           subst this; rfl
 | succ n ih =>
  intro hi hgt
  by_cases e : i = n + 1
  ·subst e; rfl
  ·have ih := ih (by omega) (fun k e h1 h2 => hgt k e h1 (by omega))
   simp only [hS]
   cases he : es[n]? with
   | none => cases hL : L n <;> exact ih
   | some e =>
    cases hL : L n with
    | false => exact ih
    | true =>
     have hd : t ∉ e.ups.map (·.1) := fun h => by have := hgt n e (by omega) (by omega) he h; rw [hL] at this; simp at this
     simp only [upd_in hd]; exact ih
theorem mget_zero (k l : List Int) : ∀ es : List (List Int × Int), mget k (es ++ [(l, 0)]) = mget k es
 | [] => by rw [List.nil_append, mget_cons, mget_nil]; split <;> rfl
 | (k', v) :: r => by rw [List.cons_append, mget_cons, mget_cons, mget_zero k l r]
theorem mget_open (k l : List Int) (es : List (List Int × Int)) : mget k (mopen l es) = mget k es := by
 unfold mopen
 split
 ·rfl
 ·exact mget_zero k l es
def OpenC (c c' : Chunk) : Prop := c' = c ∨ ∃ a n es l, c = .mp a n es ∧ c' = .mp a n (mopen l es)
theorem ex4_lk {P : Program} {g : Operand → AV} {h : Nat → Chunk} {m : Nat} {t : TypeId} {x k : Operand} {ok : Bool} : ex4 P g h m (.lookup t x k ok) = ex3 P g h m (.lookup t x k ok) := by
 unfold ex4
 cases ex3 P g h m (.lookup t x k ok) <;> rfl
theorem ex4_me {P : Program} {g : Operand → AV} {h : Nat → Chunk} {m : Nat} {t : TypeId} {x k : Operand} : ex4 P g h m (.mapEntry t x k) = ex3 P g h m (.mapEntry t x k) := by
 unfold ex4
 cases ex3 P g h m (.mapEntry t x k) <;> rfl
theorem ex3_open {P : Program} {g : Operand → AV} {h h' : Nat → Chunk} {m : Nat} {t : TypeId} {x k : Operand} (H : ∀ i, OpenC (h i) (h' i)) : ex3 P g h' m (.lookup t x k false) = ex3 P g h m (.lookup t x k false) := by
 simp only [ex3, mapAV]
 cases ty P t with
 | none => rfl
 | some d =>
  obtain ⟨kd, _, _, _, _⟩ := d
  cases kd <;> try rfl
  cases g x <;> try rfl
  rename_i id
  rcases H id with e | ⟨a, n, es, l, e1, e2⟩
  ·simp only [e]
  ·simp only [e1, e2]
   cases kty P _ <;> cases keyA (g k) <;> try rfl
   rename_i p q
   obtain ⟨_, _⟩ := p
   obtain ⟨_, _⟩ := q
   simp only
   generalize (a == _ && a == _ && Nat.beq n _ && Nat.beq n _ && intTy P _) = b
   cases b <;> simp [mget_open]
theorem opWF_open {P : Program} {ops : Array Oper} {o : Oper} {f : Nat → AV} {h h' : Nat → Chunk} {m : Nat} {K : Eff → Prop} (ho : isLk o = true) (H : ∀ i, OpenC (h i) (h' i)) (hx : opWF P ops o f h m K) : opWF P ops o f h' m K := by
 unfold isLk at ho
 rw [Bool.and_eq_true] at ho
 obtain ⟨h1, h2⟩ := ho
 have hg : o.guard = none := by simpa using h1
 split at h2
 ·rename_i t x k hop
  unfold opWF at hx ⊢
  rw [hg] at hx ⊢
  simp only [opX, hop, ex4_lk] at hx ⊢
  rw [ex3_open H]; exact hx
 ·simp at h2
theorem entry_ups {P : Program} {ops : Array Oper} {o : Oper} {f : Nat → AV} {h : Nat → Chunk} {m : Nat} {e : Eff} (ho : isEn o = true) (hx : opWF P ops o f h m (· = e)) : ∃ id a n es l, h id = .mp a n es ∧ e.ups = [(id, .mp a n (mopen l es))] := by
 unfold isEn at ho
 rw [Bool.and_eq_true] at ho
 obtain ⟨h1, h2⟩ := ho
 have hg : o.guard = none := by simpa using h1
 split at h2
 ·rename_i t x k hop
  unfold opWF at hx
  rw [hg] at hx
  simp only [opX, hop, ex4_me, ex3] at hx
  split at hx
  ·rename_i φ e' he
   obtain ⟨_, rfl⟩ := hx
   split at he
   ·rename_i id a n es l hm
    simp only [Option.some.injEq, Prod.mk.injEq] at he
    obtain ⟨_, rfl⟩ := he
    refine ⟨id, a, n, es, l, ?_, rfl⟩
    unfold mapAV at hm
    split at hm
    ·split at hm
     ·split at hm
      ·rename_i a' n' es' hid
       split at hm
       ·split at hm
        ·simp only [Option.some.injEq, Prod.mk.injEq] at hm
         obtain ⟨rfl, rfl, rfl, rfl, rfl⟩ := hm
         exact hid
        ·simp at hm
       ·simp at hm
      ·simp at hm
     ·simp at hm
    ·simp at hm
   ·simp at he
  ·exact hx.elim
 ·simp at h2
def Closed (ops : Array Oper) (E : Nat → Prop) : Prop := ∀ i o, ops[i]? = some o → E i → ∀ e ∈ o.after, Region.binds .any e = true → E e.on
theorem testBit_edge {ms : List Nat} : ∀ {es : List Edge} {j : Nat}, (edgeMask ms es).testBit j = true → ∃ e ∈ es, Region.binds .any e = true ∧ (j = e.on ∨ (ms.getD e.on 0).testBit j = true)
 | [], j, h => by simp [edgeMask] at h
 | e :: r, j, h => by
  simp only [edgeMask] at h
  split at h
  ·rename_i hb
   rw [Nat.testBit_or, Nat.testBit_or, Bool.or_eq_true, Bool.or_eq_true] at h
   rcases h with (h | h) | h
   ·refine ⟨e, by simp, hb, .inl ?_⟩
    rw [Nat.one_shiftLeft, Nat.testBit_two_pow] at h
    exact (of_decide_eq_true h).symm
   ·exact ⟨e, by simp, hb, .inr h⟩
   ·obtain ⟨e', h1, h2⟩ := testBit_edge h
    exact ⟨e', by simp [h1], h2⟩
  ·obtain ⟨e', h1, h2⟩ := testBit_edge h
   exact ⟨e', by simp [h1], h2⟩
theorem masks_spec {ops : Array Oper} {E : Nat → Prop} (hE : Closed ops E) : ∀ (l : List Oper) (ms : List Nat), ops.toList.drop ms.length = l → (∀ i j, (ms.getD i 0).testBit j = true → E i → E j) → ∀ i j, ((masks l ms).getD i 0).testBit j = true → E i → E j
 | [], ms, _, hm => by simpa only [masks] using hm
 | o :: r, ms, hd, hm => by
  simp only [masks]
  refine masks_spec hE r _ ?_ ?_
  ·simp only [List.length_append, List.length_singleton]
   rw [← List.drop_drop, hd]; rfl
  ·intro i j hb hi
   have ho : ops[ms.length]? = some o := by
    have : (ops.toList.drop ms.length)[0]? = some o := by rw [hd]; rfl
    rw [List.getElem?_drop] at this
    simpa using this
   rw [List.getD_eq_getElem?_getD] at hb
   by_cases h1 : i < ms.length
   ·rw [List.getElem?_append_left h1, ← List.getD_eq_getElem?_getD] at hb
    exact hm i j hb hi
   ·by_cases h2 : i = ms.length
    ·subst h2
     rw [List.getElem?_append_right (Nat.le_refl _)] at hb
     simp only [Nat.sub_self, List.getElem?_cons_zero, Option.getD_some] at hb
     obtain ⟨e, k1, k2, k3⟩ := testBit_edge hb
     have he := hE _ o ho hi e (by simpa using k1) k2
     rcases k3 with rfl | k3
     ·exact he
     ·exact hm _ _ k3 he
    ·rw [List.getElem?_eq_none (by simp; omega)] at hb
     simp at hb
theorem memN_iff : ∀ {l : List Nat} {i : Nat}, memN l i = true ↔ i ∈ l
 | [], i => by simp [memN]
 | a :: r, i => by
  simp only [memN]
  by_cases h : a = i
  ·simp [h]
  ·rw [if_neg h, memN_iff]; simp [Ne.symm h]
theorem disj_iff {a b : List Nat} (h : disj a b = true) : ∀ x ∈ a, x ∉ b := by
 intro x hx hb
 have := List.all_eq_true.1 h x hx
 rw [memN_iff.2 hb] at this
 simp at this
structure OpAt (P : Program) (nt : Nat) (ops : Array Oper) (n0 : Nat) (f : Nat → AV) (h : Nat → Chunk) (ds : List (Option Tmp)) (es : List Eff) (acc : List (List Nat × List Nat)) (i : Nat) : Prop where
 ok : ∃ o e, ops[i]? = some o ∧ es[i]? = some e ∧ dstOk nt o.dst ∧ ds.getD i none = o.dst ∧ e.fresh ≤ 4 ∧ (fp acc i).2 = e.ups.map (·.1) ∧
  opWF P ops o (tS f ds es (fun _ => true) i) (onlyC (fp acc i).1 (hS h es (fun _ => true) i)) (n0 + 4 * i) (· = e)
theorem look_put (d : Option Tmp) (x : AV) (t : List (Nat × AV)) : look (putO d x t) = updT (look t) d x := by
 funext i
 cases d with
 | none => simp [putO, updT]
 | some d => simp [putO, look, updT]
theorem tS_app {f : Nat → AV} {ds : List (Option Tmp)} {es : List Eff} {L : Nat → Bool} (e : Eff) : ∀ k, k ≤ es.length → tS f ds (es ++ [e]) L k = tS f ds es L k
 | 0, _ => rfl
 | k + 1, h => by
  have h1 : (es ++ [e])[k]? = es[k]? := List.getElem?_append_left (by omega)
  have ih := tS_app (f := f) (ds := ds) (es := es) (L := L) e k (by omega)
  simp only [tS, h1, ih]
theorem hS_app {f : Nat → Chunk} {es : List Eff} {L : Nat → Bool} (e : Eff) : ∀ k, k ≤ es.length → hS f (es ++ [e]) L k = hS f es L k
 | 0, _ => rfl
 | k + 1, h => by
  have h1 : (es ++ [e])[k]? = es[k]? := List.getElem?_append_left (by omega)
  have ih := hS_app (f := f) (es := es) (L := L) e k (by omega)
  simp only [hS, h1, ih]
theorem fp_app {acc : List (List Nat × List Nat)} (x : List Nat × List Nat) {k : Nat} (h : k < acc.length) : fp (acc ++ [x]) k = fp acc k := by
 unfold fp
 rw [List.getD_eq_getElem?_getD, List.getElem?_append_left h, ← List.getD_eq_getElem?_getD]
theorem drawL_out {P : Program} {nt : Nat} {ops : Array Oper} {n0 : Nat} {K : List (List Nat × List Nat) → St → Prop} {f : Nat → AV} {h : Nat → Chunk} : ∀ (l : List Oper) (i : Nat) (s : St) (acc : List (List Nat × List Nat)) (es : List Eff),
 ops.toList.drop i = l → i ≤ ops.size → es.length = i → acc.length = i → look s.t = tS f (ops.toList.map (·.dst)) es (fun _ => true) i → lookC s.h = hS h es (fun _ => true) i → (∀ k, k < i → OpAt P nt ops n0 f h (ops.toList.map (·.dst)) es acc k) →
 drawL P nt ops n0 i l acc K s → ∃ es' acc' s', es'.length = ops.size ∧ s'.n = s.n ∧ look s'.t = tS f (ops.toList.map (·.dst)) es' (fun _ => true) ops.size ∧ lookC s'.h = hS h es' (fun _ => true) ops.size ∧
  (∀ k, k < ops.size → OpAt P nt ops n0 f h (ops.toList.map (·.dst)) es' acc' k) ∧ K acc' s'
 | [], i, ⟨st, sh, sn⟩, acc, es, hl, hi, h1, h2, h3, h4, h5, hx => by
  have hsz : i = ops.size := by
   have := congrArg List.length hl
   simp at this; omega
  subst hsz
  exact ⟨es, acc, ⟨st, sh, sn⟩, h1, rfl, h3, h4, h5, hx⟩
 | o :: r, i, ⟨st, sh, sn⟩, acc, es, hl, hi, h1, h2, h3, h4, h5, hx => by
  have ho' : ops.toList[i]? = some o := by
   have : (ops.toList.drop i)[0]? = some o := by rw [hl]; rfl
   rw [List.getElem?_drop] at this
   simpa using this
  have ho : ops[i]? = some o := by simpa using ho'
  have hlt : i < ops.size := (Array.getElem?_eq_some_iff.1 ho).1
  simp only [drawL] at hx
  obtain ⟨hd, hx⟩ := hx
  obtain ⟨e, k1, k23⟩ := opWF_cut hx
  have k2 : e.fresh ≤ 4 := by cases e; exact k23.1
  have k3 : drawL P nt ops n0 (i + 1) r (acc ++ [(touch (look st) sh o, e.ups.map (·.1))]) K ⟨putO o.dst e.val st, e.ups ++ sh, sn⟩ := by cases e; exact k23.2
  have hdst : (ops.toList.map (·.dst)).getD i none = o.dst := by
   rw [List.getD_eq_getElem?_getD, List.getElem?_map, ho']; rfl
  have hei : (es ++ [e])[i]? = some e := by rw [List.getElem?_append_right (by omega), h1]; simp
  refine drawL_out r (i + 1) ⟨putO o.dst e.val st, e.ups ++ sh, sn⟩ _ (es ++ [e]) ?_ hlt ?_ ?_ ?_ ?_ ?_ k3
  ·rw [← List.drop_drop, hl]; rfl
  ·rw [List.length_append, h1]; rfl
  ·rw [List.length_append, h2]; rfl
  ·have e1 := tS_app (f := f) (ds := ops.toList.map (·.dst)) (es := es) (L := fun _ => true) e i (by omega)
   simp only [tS, hei, hdst, e1, ← h3]
   exact look_put _ _ _
  ·have e1 := hS_app (f := h) (es := es) (L := fun _ => true) e i (by omega)
   simp only [hS, hei, e1, ← h4]
   exact (upd_look _ _).symm
  ·intro k hk
   by_cases hki : k < i
   ·obtain ⟨o2, e2, q1, q2, q3, q4, q5, q6, q7⟩ := (h5 k hki).ok
    refine ⟨o2, e2, q1, by rw [List.getElem?_append_left (by omega)]; exact q2, q3, q4, q5, by rw [fp_app _ (by omega)]; exact q6, ?_⟩
    rw [fp_app _ (by omega), tS_app e k (by omega), hS_app e k (by omega)]
    exact q7
   ·obtain rfl : k = i := by omega
    have hfp : fp (acc ++ [(touch (look st) sh o, e.ups.map (·.1))]) k = (touch (look st) sh o, e.ups.map (·.1)) := by
     unfold fp
     rw [List.getD_eq_getElem?_getD, List.getElem?_append_right (by omega), h2]; simp
    refine ⟨o, e, ho, hei, hd, hdst, k2, by rw [hfp], ?_⟩
    rw [hfp, tS_app e k (by omega), hS_app e k (by omega), ← h3, ← h4]
    exact k1
theorem MemOk.weakU {W : World} {N U U' F : Nat → Prop} {β : Nat → Option Bind} {h : Nat → Chunk} {w : World} (M : MemOk W N U F β h w) (hU : ∀ i, U i → U' i) : MemOk W N U' F β h w := by
 refine ⟨M.size, M.os, M.tape, M.output, M.frame, M.fin, fun id bd hb => hU _ (M.used id bd hb), fun id hd => ?_, M.dis, M.off⟩
 obtain ⟨bd, hb, hc⟩ := M.ch id hd
 exact ⟨bd, hb, hc.mono (E := ⟨hU, fun b hb => ⟨hb, rfl⟩, fun _ _ _ h => ⟨_, h⟩⟩) (fun g _ => rfl)⟩
theorem MemOk.drew {W : World} {N U F : Nat → Prop} {β : Nat → Option Bind} {h : Nat → Chunk} {w w' : World} (M : MemOk W N U F β h w) (hh : w'.heap = w.heap) (ho : w'.os = w.os) (ht : w'.tape = w.tape) (hp : w'.output = w.output) : MemOk W N U F β h w' := by
 have E : Ext U F β w U F β w' := ⟨fun _ h => h, fun b hb => ⟨hb, by rw [hh]⟩, fun _ _ _ h => ⟨_, h⟩⟩
 refine ⟨by rw [hh]; exact M.size, ho.trans M.os, ht.trans M.tape, hp.trans M.output, fun b hb hn => by rw [hh]; exact M.frame b hb hn, fun b hb => by rw [hh]; exact M.fin b hb, M.used, fun id hd => ?_, M.dis, fun i bd b hb hbb => by rw [hh]; exact M.off i bd b hb hbb⟩
 obtain ⟨bd, hb, hc⟩ := M.ch id hd
 exact ⟨bd, hb, hc.mono E (fun g _ => by rw [hh])⟩
structure Mid (H : Hist) (n0 n : Nat) (f : Nat → AV) (h : Nat → Chunk) (ds : List (Option Tmp)) (es : List Eff) (L : Nat → Bool) (a : Act) (w : World) : Prop where
 ok : ∃ F β, MemOk H.W H.N (fun i => i < n0 ∨ ∃ k, k < n ∧ L k = true ∧ n0 + 4 * k ≤ i ∧ i < n0 + 4 * k + 4) F β (hS h es L n) w ∧
  (∀ t, RelA (fun i => i < n0 ∨ ∃ k, k < n ∧ L k = true ∧ n0 + 4 * k ≤ i ∧ i < n0 + 4 * k + 4) w F β (tS f ds es L n t) (a.tmps.getD t undef)) ∧
  (∀ b, H.F b → F b) ∧ (∀ b, F b → H.F b ∨ H.W.heap.size ≤ b ∨ H.N b) ∧ (∀ i bd, i < H.k → β i = some bd → ∃ bs, H.β i = some ⟨bd.v, bd.b, bd.n, bd.sz, bs⟩) ∧ Dfr F H.W.heap.size a.defers w
 nt : a.tmps.size = H.nt
theorem tmps_put {U F : Nat → Prop} {β : Nat → Option Bind} {w : World} {a : Act} {f : Nat → AV} {nt : Nat} (ht : ∀ t, RelA U w F β (f t) (a.tmps.getD t undef)) (hnt : a.tmps.size = nt) {d : Option Tmp} (hd : dstOk nt d) {x : AV} {v : Value} (hx : RelA U w F β x v) (t : Nat) : RelA U w F β (updT f d x t) ((a.put d v).tmps.getD t undef) := by
 cases d with
 | none => simpa [updT, Act.put] using ht t
 | some d =>
  simp only [updT, Act.put, Option.some.injEq]
  by_cases h1 : d = t
  ·subst h1
   rw [if_pos rfl]
   have : d < a.tmps.size := by rw [hnt]; exact hd
   rw [Array.getD_eq_getD_getElem?, Array.getElem?_setIfInBounds_self, if_pos this]
   exact hx
  ·rw [if_neg h1, Array.getD_eq_getD_getElem?, Array.getElem?_setIfInBounds_ne h1, ← Array.getD_eq_getD_getElem?]
   exact ht t
theorem put_size (a : Act) (d : Option Tmp) (v : Value) : (a.put d v).tmps.size = a.tmps.size ∧ (a.put d v).defers = a.defers := by
 cases d <;> simp [Act.put]
theorem draw_any {P : Program} {H : Hist} {s : St} {F : Nat → Prop} {β : Nat → Option Bind} {a : Act} {w : World} {ops : Array Oper} {Q : Exit → St → Prop} (hx : DrawG P H.nt ops (Q .normal) s) (C : Conc H s F β a w) :
 wpAny P .any ops (Post H Q) ops.size (Array.replicate ops.size false) a { w with drawn := w.drawn + 1 } := by
 obtain ⟨es, acc, s', hel, hn, ht, hh, hat, hok, hK⟩ := drawL_out (f := look s.t) (h := lookC s.h) ops.toList 0 s [] [] (by simp) (Nat.zero_le _) rfl rfl rfl rfl (fun k hk => by omega) hx
 -- what the check has shown
 unfold drawOk at hok
 simp only [Bool.and_eq_true] at hok
 obtain ⟨hedge, hpair⟩ := hok
 have edge : ∀ k o, ops[k]? = some o → ∀ e ∈ o.after, Region.binds .any e = true → e.on < k := by
  intro k o ho e he hb
  have hk : k < ops.size := (Array.getElem?_eq_some_iff.1 ho).1
  have := List.all_eq_true.1 hedge k (by simpa using hk)
  rw [ho] at this
  have := List.all_eq_true.1 this e (by simpa using he)
  rw [hb] at this
  simpa using this
 have pair : ∀ i j, i < j → j < ops.size → pairOk ops (masks ops.toList []) acc i j = true := by
  intro i j hij hj
  have := List.all_eq_true.1 hpair j (by simpa using hj)
  exact List.all_eq_true.1 this i (by simpa using hij)
 let n := ops.size
 let ds := ops.toList.map (·.dst)
 -- the induction
 have key : ∀ (fuel : Nat) (listed : Array Bool) (a : Act) (w : World), listed.size = n → Closed ops (fun i => listed.getD i false = true) → ((List.range n).filter fun i => !listed.getD i false).length = fuel →
  Mid H s.n n (look s.t) (lookC s.h) ds es (fun i => listed.getD i false) a w → wpAny P .any ops (Post H Q) fuel listed a w := by
  intro fuel
  have allDone : ∀ (listed : Array Bool) (a : Act) (w : World), (∀ i, i < n → listed.getD i false = true) → Mid H s.n n (look s.t) (lookC s.h) ds es (fun i => listed.getD i false) a w → Post H Q .normal a w := by
   intro listed a w hall M
   obtain ⟨F, β, M1, M2, M3, M4, M5, M6⟩ := M.ok
   have e1 : ∀ t, tS (look s.t) ds es (fun i => listed.getD i false) n t = look s'.t t := by
    intro t
    rw [ht]
    exact tS_agree (fun k hk _ => hall k hk) n (Nat.le_refl _) (fun k h1 h2 => by omega)
   have e2 : hS (lookC s.h) es (fun i => listed.getD i false) n = lookC s'.h := by
    funext t
    rw [hh]
    exact hS_agree (fun k e hk _ _ => hall k hk) n (Nat.le_refl _) (fun k e h1 h2 => by omega)
   rw [e2] at M1
   have hU : ∀ i, (i < s.n ∨ ∃ k, k < n ∧ listed.getD k false = true ∧ s.n + 4 * k ≤ i ∧ i < s.n + 4 * k + 4) → i < s.n + 4 * ops.size := by
    rintro i (h | ⟨k, h1, _, h2, h3⟩)
    ·omega
    ·have : n = ops.size := rfl
     omega
   refine ⟨⟨s'.t, s'.h, s.n + 4 * ops.size⟩, F, β, ⟨fun t => ?_, M1.weakU hU, M.nt, M6, M3, M4, M5, Nat.le_trans C.k (Nat.le_add_right _ _)⟩, hK⟩
   have := M2 t
   rw [e1 t] at this
   exact RelA.mono ⟨hU, fun b hb => ⟨hb, rfl⟩, fun _ _ _ h => ⟨_, h⟩⟩ _ _ this
  induction fuel with
  | zero =>
   intro listed a w hsz hcl hf M
   have hall : ∀ i, i < n → listed.getD i false = true := by
    intro i hi
    have := List.eq_nil_of_length_eq_zero hf
    rw [List.filter_eq_nil_iff] at this
    have := this i (by simpa using hi)
    simpa using this
   refine ⟨?_, allDone listed a w hall M⟩
   apply List.eq_nil_iff_forall_not_mem.2
   intro j hj
   obtain ⟨h1, o, ho, _⟩ := mem_ready.1 hj
   have hjn : j < n := (Array.getElem?_eq_some_iff.1 ho).1
   have := hall j hjn
   rw [Array.getD_eq_getD_getElem?] at this h1
   have hjs : j < listed.size := by omega
   rw [Array.getElem?_eq_getElem hjs] at this h1
   simp only [Option.getD_some] at this h1
   rw [this] at h1; simp at h1
  | succ fuel ih =>
   intro listed a w hsz hcl hf M
   have gd : ∀ i, i < n → listed.getD i true = listed.getD i false := by
    intro i hi
    have hjs : i < listed.size := by omega
    rw [Array.getD_eq_getD_getElem?, Array.getD_eq_getD_getElem?, Array.getElem?_eq_getElem hjs]; rfl
   refine ⟨fun hr => ?_, fun i hi => ?_⟩
   · -- nobody may come up: all are done
    refine allDone listed a w ?_ M
    intro i
    induction i using Nat.strongRecOn with
    | _ i ihi =>
     intro hi
     cases hLi : listed.getD i false with
     | true => rfl
     | false =>
      exfalso
      have ho : ops[i]? = some ops[i] := Array.getElem?_eq_getElem hi
      have hm : i ∈ Region.ready .any ops listed := mem_ready.2 ⟨by rw [gd i hi]; exact hLi, _, ho, fun e he hb => ihi e.on (edge i _ ho e he hb) (by have := edge i _ ho e he hb; omega)⟩
      rw [hr] at hm
      simp at hm
   · -- number i comes up
    obtain ⟨hun, oi, hoi, hpre⟩ := mem_ready.1 hi
    have hin : i < n := (Array.getElem?_eq_some_iff.1 hoi).1
    rw [gd i hin] at hun
    obtain ⟨F, β, M1, M2, M3, M4, M5, M6⟩ := M.ok
    obtain ⟨o, e, q1, q2, q3, q4, q5, q6, q7⟩ := (hat i hin).ok
    rw [hoi] at q1
    cases q1
    -- those that are ordered
    have hcl' : Closed ops (fun k => listed.getD k false = true ∨ k = i) := by
     intro k ok hk hE e' he' hb'
     rcases hE with hE | rfl
     ·exact .inl (hcl k ok hk hE e' he' hb')
     ·rw [hoi] at hk; cases hk
      exact .inl (hpre e' he' hb')
    have before : ∀ k, k < i → ((masks ops.toList []).getD i 0).testBit k = true → listed.getD k false = true := by
     intro k hk hb
     have := masks_spec hcl' ops.toList [] (by simp) (by intro i j h; simp at h) i k hb (.inr rfl)
     rcases this with h | h
     ·exact h
     ·omega
    have after : ∀ k, i < k → listed.getD k false = true → ((masks ops.toList []).getD k 0).testBit i = true → False := by
     intro k hk hL hb
     have := masks_spec hcl ops.toList [] (by simp) (by intro i j h; simp at h) k i hb hL
     rw [hun] at this; simp at this
    have apart_lt : ∀ k ok, k < i → ops[k]? = some ok → listed.getD k false = false → Oper.apart ops ok oi = true ∧ disj (fp acc k).2 ((fp acc i).1 ++ (fp acc i).2) = true := by
     intro k ok hk hok hL
     have := pair k i hk hin
     unfold pairOk at this
     rw [Bool.or_eq_true] at this
     rcases this with h | h
     ·have := before k hk h; rw [hL] at this; simp at this
     ·simp only [hok, hoi, Bool.and_eq_true] at h
      exact ⟨h.1.1, h.1.2⟩
    have apart_gt : ∀ k ok, i < k → k < n → ops[k]? = some ok → listed.getD k false = true → Oper.apart ops oi ok = true ∧ disj (fp acc i).2 ((fp acc k).1 ++ (fp acc k).2) = true ∧ (disj (fp acc i).1 (fp acc k).2 = true ∨ lkOk ops acc i k = true) := by
     intro k ok hk hkn hok hL
     have := pair i k hk hkn
     unfold pairOk at this
     rw [Bool.or_eq_true] at this
     rcases this with h | h
     ·exact (after k hk hL h).elim
     ·simp only [hok, hoi, Bool.and_eq_true, Bool.or_eq_true] at h
      exact ⟨h.1.1, h.1.2, h.2⟩
    have dsk : ∀ k t, ds.getD k none = some t → ∃ ok, ops[k]? = some ok ∧ ok.dst = some t ∧ k < n := by
     intro k t hk
     rw [List.getD_eq_getElem?_getD, List.getElem?_map] at hk
     cases ho : ops.toList[k]? with
     | none => rw [ho] at hk; simp at hk
     | some ok =>
      rw [ho] at hk
      have ho' : ops[k]? = some ok := by simpa using ho
      exact ⟨ok, ho', by simpa using hk, (Array.getElem?_eq_some_iff.1 ho').1⟩
    have fpk : ∀ k e2, k < n → es[k]? = some e2 → (fp acc k).2 = e2.ups.map (·.1) := by
     intro k e2 hk he2
     obtain ⟨_, e3, _, p2, _, _, _, p6, _⟩ := (hat k hk).ok
     rw [he2] at p2; cases p2; exact p6
    have opk : ∀ k, k < n → ∃ ok, ops[k]? = some ok := fun k hk => ⟨_, Array.getElem?_eq_getElem hk⟩
    -- the temporaries that it looks at
    have agT : ∀ t ∈ oi.looksAt ops, tS (look s.t) ds es (fun i => listed.getD i false) n t = tS (look s.t) ds es (fun _ => true) i t := by
     intro t htl
     refine tS_agree (fun k hk hd => ?_) n (Nat.le_of_lt hin) (fun k h1 h2 hd => ?_)
     ·obtain ⟨ok, hok, hdk, _⟩ := dsk k t hd
      cases hL : listed.getD k false with
      | true => rfl
      | false => exact ((Oper.apart_spec (apart_lt k ok hk hok hL).1).1 t hdk htl).elim
     ·obtain ⟨ok, hok, hdk, _⟩ := dsk k t hd
      by_cases hki : k = i
      ·subst hki; exact hun
      ·cases hL : listed.getD k false with
       | false => rfl
       | true => exact ((Oper.apart_spec (apart_gt k ok (by omega) h2 hok hL).1).2.2 t hdk htl).elim
    -- the memory that it looks at
    have agH : ∀ t ∈ (fp acc i).1, hS (lookC s.h) es (fun i => listed.getD i false) n t = hS (lookC s.h) es (fun _ => true) i t ∨ (isLk oi = true ∧ OpenC (hS (lookC s.h) es (fun _ => true) i t) (hS (lookC s.h) es (fun i => listed.getD i false) n t)) := by
     intro t htl
     by_cases hex : ∃ k e2, i < k ∧ k < n ∧ es[k]? = some e2 ∧ t ∈ e2.ups.map (·.1) ∧ listed.getD k false = true
     ·obtain ⟨k, e2, hik, hkn, he2, htk, hLk⟩ := hex
      have lk : ∀ k e2, i < k → k < n → es[k]? = some e2 → t ∈ e2.ups.map (·.1) → listed.getD k false = true → lkOk ops acc i k = true := by
       intro k e2 hik hkn he2 htk hLk
       obtain ⟨ok, hok⟩ := opk k hkn
       rcases (apart_gt k ok hik hkn hok hLk).2.2 with h | h
       ·exact (disj_iff h t htl (by rw [fpk k e2 hkn he2]; exact htk)).elim
       ·exact h
      have lkk := lk k e2 hik hkn he2 htk hLk
      obtain ⟨ok, hok⟩ := opk k hkn
      have mid : ∀ k m e3, lkOk ops acc i k = true → i < m → m < k → m < n → es[m]? = some e3 → t ∉ e3.ups.map (·.1) := by
       intro k m e3 hl h1 h2 h3 h4 h5
       unfold lkOk at hl
       rw [Bool.and_eq_true] at hl
       have := List.all_eq_true.1 hl.2 m (by simpa using h2)
       rw [Bool.or_eq_true] at this
       rcases this with h | h
       ·have := Nat.le_of_ble_eq_true h; omega
       ·exact disj_iff h t htl (by rw [fpk m e3 h3 h4]; exact h5)
      have uniq : ∀ k' e3, i < k' → k' < n → es[k']? = some e3 → t ∈ e3.ups.map (·.1) → listed.getD k' false = true → k' = k := by
       intro k' e3 h1 h2 h3 h4 h5
       rcases Nat.lt_trichotomy k' k with h | h | h
       ·exact (mid k k' e3 lkk h1 h h2 h3 h4).elim
       ·exact h
       ·exact (mid k' k e2 (lk k' e3 h1 h2 h3 h4 h5) hik h hkn he2 htk).elim
      unfold lkOk at lkk
      rw [Bool.and_eq_true, hoi, hok] at lkk
      simp only [Bool.and_eq_true] at lkk
      obtain ⟨⟨isl, isn⟩, _⟩ := lkk
      refine .inr ⟨isl, ?_⟩
      obtain ⟨ok', e3, p1, p2, _, _, _, p6, p7⟩ := (hat k hkn).ok
      rw [hok] at p1; cases p1
      rw [he2] at p2; cases p2
      obtain ⟨id, a', n', es', l, r1, r2⟩ := entry_ups isn p7
      have hti : t = id := by rw [r2] at htk; simpa using htk
      subst hti
      have r3 : hS (lookC s.h) es (fun _ => true) k t = .mp a' n' es' := by
       unfold onlyC at r1
       split at r1
       ·exact r1
       ·simp at r1
      have r4 : hS (lookC s.h) es (fun _ => true) k t = hS (lookC s.h) es (fun _ => true) i t := by
       refine hS_stay k (Nat.le_of_lt hik) (fun m e4 h1 h2 h3 h4 => ?_)
       exfalso
       by_cases hmi : m = i
       ·subst hmi
        have := disj_iff (apart_gt k ok hik hkn hok hLk).2.1 t (by rw [fpk m e4 hin h3]; exact h4)
        exact this (List.mem_append_right _ (by rw [p6]; exact htk))
       ·exact mid k m e4 (lk k e2 hik hkn he2 htk hLk) (by omega) h2 (by omega) h3 h4
      have r5 : hS (lookC s.h) es (fun i => listed.getD i false) n t = hS (lookC s.h) es (fun i => listed.getD i false) (k + 1) t := by
       refine hS_stay n hkn (fun m e4 h1 h2 h3 h4 => ?_)
       cases hLm : listed.getD m false with
       | false => rfl
       | true => have := uniq m e4 (by omega) h2 h3 h4 hLm; omega
      have r6 : hS (lookC s.h) es (fun i => listed.getD i false) (k + 1) t = .mp a' n' (mopen l es') := by
       simp only [hS, hLk, he2, r2, upd, if_true]
      exact .inr ⟨a', n', es', l, r4.symm.trans r3, r5.trans r6⟩
     ·refine .inl (hS_agree (fun k e2 hk he2 hd => ?_) n (Nat.le_of_lt hin) (fun k e2 h1 h2 he2 hd => ?_))
      ·obtain ⟨ok, hok⟩ := opk k (by omega)
       cases hL : listed.getD k false with
       | true => rfl
       | false =>
        have := disj_iff (apart_lt k ok hk hok hL).2 t (by rw [fpk k e2 (by omega) he2]; exact hd)
        exact (this (List.mem_append_left _ htl)).elim
      ·by_cases hki : k = i
       ·subst hki; exact hun
       ·cases hL : listed.getD k false with
        | false => rfl
        | true => exact (hex ⟨k, e2, by omega, h2, he2, hd, hL⟩).elim
    have q7' : opWF P ops oi (tS (look s.t) ds es (fun _ => true) i) (onlyC (fp acc i).1 (hS (lookC s.h) es (fun i => listed.getD i false) n)) (s.n + 4 * i) (· = e) := by
     cases isl : isLk oi with
     | true =>
      refine opWF_open isl (fun t => ?_) q7
      unfold onlyC
      cases hm : memN (fp acc i).1 t with
      | false => exact .inl rfl
      | true =>
       rcases agH t (memN_iff.1 hm) with h | h
       ·exact .inl h
       ·exact h.2
     | false =>
      have : onlyC (fp acc i).1 (hS (lookC s.h) es (fun i => listed.getD i false) n) = onlyC (fp acc i).1 (hS (lookC s.h) es (fun _ => true) i) := by
       funext t
       unfold onlyC
       cases hm : memN (fp acc i).1 t with
       | false => rfl
       | true =>
        rcases agH t (memN_iff.1 hm) with h | h
        ·exact h
        ·rw [isl] at h; simp at h
      rw [this]; exact q7
    have hsub : ∀ id, onlyC (fp acc i).1 (hS (lookC s.h) es (fun i => listed.getD i false) n) id ≠ .dead → onlyC (fp acc i).1 (hS (lookC s.h) es (fun i => listed.getD i false) n) id = hS (lookC s.h) es (fun i => listed.getD i false) n id := by
     intro id hne
     unfold onlyC at hne ⊢
     cases hm : memN (fp acc i).1 id with
     | false => rw [hm] at hne; exact (hne rfl).elim
     | true => rfl
    have hLset : (fun k => (listed.setIfInBounds i true).getD k false) = setL (fun k => listed.getD k false) i := by
     funext k
     unfold setL
     by_cases hki : k = i
     ·subst hki
      have : k < listed.size := by omega
      simp [this]
     ·rw [if_neg hki, getD_set_ne false (Ne.symm hki)]
    have hUnot : ∀ x, s.n + 4 * i ≤ x → x < s.n + 4 * i + 4 → ¬ (x < s.n ∨ ∃ k, k < n ∧ listed.getD k false = true ∧ s.n + 4 * k ≤ x ∧ x < s.n + 4 * k + 4) := by
     rintro x h1 h2 (h | ⟨k, h3, h4, h5, h6⟩)
     ·omega
     ·have : k = i := by omega
      subst this
      rw [hun] at h4; simp at h4
    have fin := opWF_run (a := a) (Q := Post H Q) (next := wpAny P .any ops (Post H Q) fuel (listed.setIfInBounds i true)) (hT := onlyC (fp acc i).1 (hS (lookC s.h) es (fun i => listed.getD i false) n)) M1 hsub (hUnot _ (Nat.le_refl _) (by omega)) (o := oi)
     (f := tS (look s.t) ds es (fun _ => true) i) (fun t htl => by rw [← agT t htl]; exact M2 t) (fun e' he' x h1 h2 => by subst he'; exact hUnot x h1 (by omega)) q7' (by
     rintro e' v w' rfl S
     refine ih _ _ _ (by simpa using hsz) ?_ ?_ ?_
     ·intro k ok hk hE e2 he2 hb2
      rw [congrFun hLset k] at hE
      show (fun k => (listed.setIfInBounds i true).getD k false) e2.on = true
      rw [hLset]
      unfold setL at hE ⊢
      by_cases h1 : e2.on = i
      ·rw [if_pos h1]
      ·rw [if_neg h1]
       by_cases hki : k = i
       ·subst hki
        rw [hoi] at hk; cases hk
        exact hpre e2 he2 hb2
       ·rw [if_neg hki] at hE
        exact hcl k ok hk hE e2 he2 hb2
     ·have cnt : ∀ (l : List Nat), l.Nodup → i ∈ l → (l.filter fun k => !listed.getD k false).length = (l.filter fun k => !(listed.setIfInBounds i true).getD k false).length + 1 := by
       intro l
       induction l with
       | nil => intro _ h; simp at h
       | cons x r ihr =>
        intro hnd hmem
        have hx := congrFun hLset x
        simp only [setL] at hx
        rw [List.nodup_cons] at hnd
        by_cases hxi : x = i
        ·subst hxi
         rw [if_pos rfl] at hx
         rw [List.filter_cons, List.filter_cons, hun, hx]
         simp only [Bool.not_false, Bool.not_true, if_true, Bool.false_eq_true, if_false, List.length_cons]
         congr 2
         apply List.filter_congr
         intro y hy
         have hyx : y ≠ x := fun h => hnd.1 (h ▸ hy)
         have := congrFun hLset y
         simp only [setL, if_neg hyx] at this
         rw [this]
        ·rw [if_neg hxi] at hx
         have := ihr hnd.2 ((List.mem_cons.1 hmem).resolve_left (Ne.symm hxi))
         rw [List.filter_cons, List.filter_cons, hx]
         split
         ·simp only [List.length_cons, this]
         ·exact this
      have := cnt (List.range n) List.nodup_range (by simpa using hin)
      omega
     ·obtain ⟨F', β', S1, S2, S3, S4⟩ := S
      have eT := tS_insert (f := look s.t) (ds := ds) (L := fun k => listed.getD k false) hun q2 n hin (fun k t h1 h2 h3 h4 => by
       obtain ⟨ok, hok, hdk, _⟩ := dsk k t h4
       rw [q4]
       intro h5
       exact (Oper.apart_spec (apart_gt k ok h1 h2 hok h3).1).2.1 t h5 hdk)
      have eH := hS_insert (h := lookC s.h) (L := fun k => listed.getD k false) hun q2 n hin (fun k e2 t h1 h2 h3 h4 h5 h6 => by
       obtain ⟨ok, hok⟩ := opk k h2
       have := disj_iff (apart_gt k ok h1 h2 hok h3).2.1 t (by rw [q6]; exact h6)
       exact this (List.mem_append_right _ (by rw [fpk k e2 h2 h4]; exact h5)))
      have hU' : ∀ x, ((x < s.n ∨ ∃ k, k < n ∧ listed.getD k false = true ∧ s.n + 4 * k ≤ x ∧ x < s.n + 4 * k + 4) ∨ (s.n + 4 * i ≤ x ∧ x < s.n + 4 * i + e'.fresh)) → (x < s.n ∨ ∃ k, k < n ∧ setL (fun k => listed.getD k false) i k = true ∧ s.n + 4 * k ≤ x ∧ x < s.n + 4 * k + 4) := by
       rintro x ((h | ⟨k, h1, h2, h3⟩) | ⟨h1, h2⟩)
       ·exact .inl h
       ·refine .inr ⟨k, h1, ?_, h3⟩
        unfold setL
        by_cases hki : k = i
        ·rw [if_pos hki]
        ·rw [if_neg hki]; exact h2
       ·exact .inr ⟨i, hin, by unfold setL; rw [if_pos rfl], h1, by omega⟩
      have hU'' : ∀ x, ((x < s.n ∨ ∃ k, k < n ∧ listed.getD k false = true ∧ s.n + 4 * k ≤ x ∧ x < s.n + 4 * k + 4) ∨ (s.n + 4 * i ≤ x ∧ x < s.n + 4 * i + e'.fresh)) → (x < s.n ∨ ∃ k, k < n ∧ (listed.setIfInBounds i true).getD k false = true ∧ s.n + 4 * k ≤ x ∧ x < s.n + 4 * k + 4) := by
       intro x hx
       rcases hU' x hx with h | ⟨k, h1, h2, h3⟩
       ·exact .inl h
       ·exact .inr ⟨k, h1, (congrFun hLset k).trans h2, h3⟩
      refine ⟨⟨F', β', ?_, fun t => ?_, fun b hb => (S2.f b (M3 b hb)).1, fun b hb => ?_, fun j bd hj hb => ?_, by rw [(put_size a oi.dst v).2]; exact M6.mono S2.f⟩, by rw [(put_size a oi.dst v).1]; exact M.nt⟩
      ·rw [hLset, eH]
       exact S1.weakU hU''
      ·rw [hLset, eT, q4]
       have := tmps_put (x := e'.val) (v := v) (fun t => RelA.mono S2 _ _ (M2 t)) M.nt q3 S3 t
       exact RelA.mono ⟨hU'', fun b hb => ⟨hb, rfl⟩, fun _ _ _ h => ⟨_, h⟩⟩ _ _ this
      ·rcases S4 b hb with h | h
       ·exact M4 b h
       ·exact .inr h
      ·obtain ⟨bs, h1⟩ := S2.e j bd (.inl (Nat.lt_of_lt_of_le hj C.k)) hb
       exact M5 j ⟨_, _, _, _, bs⟩ hj h1)
    unfold wpOp
    rw [hoi]
    exact fin
 refine key ops.size _ a _ (by simp [n]) ?_ ?_ ?_
 ·intro i o _ hE
  exfalso
  rw [Array.getD_eq_getD_getElem?] at hE
  by_cases hi : i < ops.size
  ·simp [hi] at hE
  ·simp [hi] at hE
 ·have : (List.range n).filter (fun i => !(Array.replicate ops.size false).getD i false) = List.range n := by
   apply List.filter_eq_self.2
   intro i hi
   have hi' : i < ops.size := by simpa using hi
   simp [hi']
  rw [this]; simp [n]
 ·have hL : (fun i => (Array.replicate ops.size false).getD i false) = fun _ => false := by
   funext i
   rw [Array.getD_eq_getD_getElem?]
   by_cases hi : i < ops.size
   ·simp [hi]
   ·simp [hi]
  have t0 : ∀ k, tS (look s.t) ds es (fun _ => false) k = look s.t := by
   intro k
   induction k with
   | zero => rfl
   | succ k ih => simp only [tS]; exact ih
  have h0 : ∀ k, hS (lookC s.h) es (fun _ => false) k = lookC s.h := by
   intro k
   induction k with
   | zero => rfl
   | succ k ih => simp only [hS]; exact ih
  have hU0 : ∀ x, x < s.n → (x < s.n ∨ ∃ k, k < n ∧ (Array.replicate ops.size false).getD k false = true ∧ s.n + 4 * k ≤ x ∧ x < s.n + 4 * k + 4) := fun x hx => .inl hx
  refine ⟨⟨F, β, ?_, fun t => ?_, C.f, C.g, C.e, C.d.mono fun b hb => ⟨hb, rfl⟩⟩, C.nt⟩
  ·rw [hL, h0]
   exact (C.m.drew (w' := { w with drawn := w.drawn + 1 }) rfl rfl rfl rfl).weakU (fun x hx => .inl hx)
  ·rw [hL, t0]
   have E : Ext (· < s.n) F β w (fun i => i < s.n ∨ ∃ k, k < n ∧ (Array.replicate ops.size false).getD k false = true ∧ s.n + 4 * k ≤ i ∧ i < s.n + 4 * k + 4) F β { w with drawn := w.drawn + 1 } := ⟨fun x hx => .inl hx, fun b hb => ⟨hb, rfl⟩, fun _ _ _ h => ⟨_, h⟩⟩
   exact RelA.mono E _ _ (C.t t)
theorem draw_run {P : Program} (hmix : P.follows .mixedOrders = true) {H : Hist} {s : St} {F : Nat → Prop} {β : Nat → Option Bind} {a : Act} {w : World} {ops : Array Oper} {Q : Exit → St → Prop} (id : Nat) (hx : DrawG P H.nt ops (Q .normal) s) (C : Conc H s F β a w) :
 (Code.region id ops true).wp P (Post H Q) a w := wp_region_any hmix (draw_any hx C)
theorem spec_am {P : Program} {f : FuncId} {fn : Func} {c : Code} {args : List AV} {hs hs' : List Chunk} {r : AV} (hf : P.funcs[f]? = some fn) (hb : fn.body = some c) (hn : (fn.name == "runtime.NumGoroutine") = false) (hmix : P.follows .mixedOrders = true)
 (nt : Nat) (hnt : nt = args.length + (fn.ntmps - args.length)) (rs : List ResultVar) (hrs : fn.results = rs.toArray) (hle : hs.length ≤ hs'.length)
 (h : awp P nt hs.length c (RetQ P hs.length rs r hs') ⟨argsT 0 args, hsT 0 hs, hs.length⟩) : Spec P f args hs r hs' :=
 spec_of hf hb hn (fun _ _ _ _ _ _ _ _ id hx C => draw_run hmix id hx C) nt hnt rs hrs hle h
section
variable {k : Nat} {b : Bool} {X Y : (Exit → St → Prop) → St → Prop} {Q : Exit → St → Prop} {s : St}
theorem cond_i (h1 : b = true → X Q s) (h2 : b = false → Y Q s) : CondJ k (.c (.v (.bool b))) X Y Q s := .inl ⟨h1, h2⟩
theorem cond_j {α : Type} (S : α → St) (Pr : α → Prop) (h1 : b = true → X (joinK k S Pr Q) s) (h2 : b = false → Y (joinK k S Pr Q) s) (h : ∀ x, Pr x → Q .normal (S x)) : CondJ k (.c (.v (.bool b))) X Y Q s := .inr (.inl ⟨α, S, Pr, ⟨h1, h2⟩, h⟩)
end
def Tr : Prop := True
theorem trI : Tr := True.intro
theorem joinK_n {α : Type} {k : Nat} {S : α → St} {Pr : α → Prop} {Q : Exit → St → Prop} {s : St} : joinK k S Pr Q .normal s = ∃ y, Pr y ∧ ToK k s (S y) := rfl
theorem joinK_e {α : Type} {k : Nat} {S : α → St} {Pr : α → Prop} {Q : Exit → St → Prop} {s : St} {i : Nat} : joinK k S Pr Q (.exit i) s = Q (.exit i) s := rfl
theorem joinK_r {α : Type} {k : Nat} {S : α → St} {Pr : α → Prop} {Q : Exit → St → Prop} {s : St} : joinK k S Pr Q .ret s = Q .ret s := rfl
section
variable {P : Program} {f : FuncId} {args args' : List AV} {h : Nat → Chunk} {m : Nat} {K : Eff → Prop} {r : AV}
theorem callP (S : Spec P f args' [] r []) (hw : WkL (cvL [] noC args) args') (k : K ⟨up [] m r, [], 0⟩) : CallG P f args h m K :=
 ⟨_, .inl ⟨[], args', [], r, [], List.nodup_nil, hw, rfl, by simp, S, rfl⟩, k⟩
theorem callB (S : Spec P f args' [] r []) (hw : WkL (cvL [] h args) args') (hr : scal r = true) (k : K ⟨r, [], 0⟩) : CallG P f args h m K :=
 ⟨_, .inr ⟨args', r, hr, hw, S, rfl⟩, k⟩
theorem callM {hs hs' : List Chunk} (ids : List Nat) (S : Spec P f args' hs r hs') (hw : WkL (cvL ids noC args) args') (hh : hs = ids.map (fun id => cvC ids noC (h id))) (hnd : ids.Nodup) (hal : ∀ id ∈ ids, h id ≠ .dead) (k : K ⟨up ids m r, upsL ids m 0 hs', hs'.length - ids.length⟩) : CallG P f args h m K :=
 ⟨_, .inl ⟨ids, args', hs, r, hs', hnd, hw, hh, hal, S, rfl⟩, k⟩
variable {c : Bool} {φ : Prop}
theorem gcallP (S : c = true → Spec P f args' [] r []) (hw : WkL (cvL [] noC args) args') (hφ : c = true → φ) (k : K ⟨.opt c (up [] m r), [], 0⟩) : GCall P c f args φ h m K :=
 .inl ⟨_, fun hc => ⟨hφ hc, .inl ⟨[], args', [], r, [], List.nodup_nil, hw, rfl, by simp, S hc, rfl⟩⟩, k⟩
theorem gcallB (S : c = true → Spec P f args' [] r []) (hw : WkL (cvL [] h args) args') (hr : scal r = true) (hφ : c = true → φ) (k : K ⟨.opt c r, [], 0⟩) : GCall P c f args φ h m K :=
 .inl ⟨_, fun hc => ⟨hφ hc, .inr ⟨args', r, hr, hw, S hc, rfl⟩⟩, k⟩
end
def lpK {α : Type} (k : Nat) (S : α → St) (Pr : α → Prop) (μ : α → Nat) (x : α) (Q : Exit → St → Prop) : Exit → St → Prop := fun e s' => match e with
 | .normal => ∃ y, Pr y ∧ μ y < μ x ∧ ToK k s' (S y)
 | e => Q e s'
theorem loopI {k : Nat} {A : (Exit → St → Prop) → St → Prop} {Q : Exit → St → Prop} {s : St} {α : Type} (S : α → St) (Pr : α → Prop) (μ : α → Nat) (x : α) (hx : Pr x) (h0 : ToK k s (S x))
 (hr : ∀ x, Pr x → A (lpK k S Pr μ x Q) (S x)) : LoopG k A Q s := ⟨α, S, Pr, μ, ⟨x, hx, h0⟩, hr⟩
theorem lpK_n {α : Type} {k : Nat} {S : α → St} {Pr : α → Prop} {μ : α → Nat} {x : α} {Q : Exit → St → Prop} {s : St} : lpK k S Pr μ x Q .normal s = ∃ y, Pr y ∧ μ y < μ x ∧ ToK k s (S y) := rfl
theorem lpK_e {α : Type} {k : Nat} {S : α → St} {Pr : α → Prop} {μ : α → Nat} {x : α} {Q : Exit → St → Prop} {s : St} {i : Nat} : lpK k S Pr μ x Q (.exit i) s = Q (.exit i) s := rfl
theorem lpK_r {α : Type} {k : Nat} {S : α → St} {Pr : α → Prop} {μ : α → Nat} {x : α} {Q : Exit → St → Prop} {s : St} : lpK k S Pr μ x Q .ret s = Q .ret s := rfl
theorem ToK.trans {k : Nat} {s s' s'' : St} (h : ToK k s s') (h' : ToK k s' s'') : ToK k s s'' := by
 intro H F β a w hk C
 obtain ⟨F', β', C'⟩ := h H F β a w hk C
 exact h' H F' β' a w hk C'
theorem To.nil {k : Nat} {s : St} (t e sz : Nat) (ht : look s.t t = .c (.v (.slice none 0 0))) : ToK k s ⟨(t, .own s.n) :: s.t, (s.n, .row e sz []) :: s.h, s.n + 1⟩ := by
 intro H F β a w hk C
 have hb0 : ∀ bd, β s.n ≠ some bd := fun bd hb => absurd (C.m.used _ bd hb) (Nat.lt_irrefl _)
 obtain ⟨M, E⟩ := C.m.step (w' := w) (h' := lookC ((s.n, .row e sz []) :: s.h)) (β' := updB β s.n (some ⟨.slice none 0 0, none, 0, sz, []⟩)) (F' := F) (U' := (· < s.n + 1)) (fun i => i = s.n)
  (fun i hi => by simp [updB, Ne.symm hi]) (fun i hi => by simp [lookC, Ne.symm hi]) rfl rfl rfl (Nat.le_refl _) (fun _ _ _ => rfl) (fun i hi => Nat.lt_succ_of_lt hi) (fun b hb => hb)
  (fun b hb => ⟨C.m.fin b hb, .inl hb⟩) (fun i bd' hi hu => by subst hi; exact absurd hu (Nat.lt_irrefl _))
  (fun i bd' hi hb => by
   subst hi
   simp only [updB, if_true, Option.some.injEq] at hb
   subst hb
   exact ⟨Nat.lt_succ_self _, fun b hb => by have := Bind.has_nil hb; simp at this⟩)
  (fun i j _ _ _ hi hj _ _ _ _ => by rw [hi, hj])
  (fun E i hi _ => by
   subst hi
   refine ⟨⟨.slice none 0 0, none, 0, sz, []⟩, by simp [updB], ?_⟩
   simp only [lookC, if_true, ChOk]
   simp)
 refine ⟨F, updB β s.n (some ⟨.slice none 0 0, none, 0, sz, []⟩), fun t' => ?_, M, C.nt, C.d, C.f, C.g, fun i bd' hi hb => ?_, Nat.le_succ_of_le C.k⟩
 ·simp only [look]
  by_cases h : t = t'
  ·subst h
   rw [if_pos rfl]
   have h1 := C.t t
   rw [ht, relC] at h1
   simp only [RelA]
   rw [h1.1]
   refine ⟨Nat.lt_succ_self _, rfl, fun bd hb => ?_⟩
   simp only [updB, if_true, Option.some.injEq] at hb
   subst hb; rfl
  ·rw [if_neg h]; exact RelA.mono E _ _ (C.t t')
 ·refine C.e i bd' hi ?_
  have : s.n ≠ i := by have := C.k; omega
  simpa [updB, this] using hb
theorem ToK.refl (k : Nat) (s : St) : ToK k s s := fun _ F β _ _ _ C => ⟨F, β, C⟩
theorem ret0 {P : Program} {rs : List ResultVar} {r : AV} {s : St} {φ : Prop} {xs : List AV} (h : resAV P (look s.t) (lookC s.h) rs = some (φ, xs)) (hφ : φ) (hw : Wk (cv [] (lookC s.h) (oneV xs)) r) : RetG P 0 rs r [] s := by
 refine ⟨s, ToK.refl _ _, [], rfl, List.nodup_nil, trivial, ?_⟩
 rw [h]
 exact ⟨hφ, hw⟩
theorem retM {P : Program} {k : Nat} {rs : List ResultVar} {r : AV} {s : St} {hs' : List Chunk} {φ : Prop} {xs : List AV} (ids : List Nat) (h : resAV P (look s.t) (lookC s.h) rs = some (φ, xs)) (hk : ids.take k = List.range k) (hnd : ids.Nodup) (hh : hsW ids (lookC s.h) ids hs') (hφ : φ) (hw : Wk (cv ids (lookC s.h) (oneV xs)) r) : RetG P k rs r hs' s := by
 refine ⟨s, ToK.refl _ _, ids, hk, hnd, hh, ?_⟩
 rw [h]
 exact ⟨hφ, hw⟩
theorem retTo {P : Program} {k : Nat} {rs : List ResultVar} {r : AV} {s s' : St} {hs' : List Chunk} (hto : ToK k s s') (h : RetG P k rs r hs' s') : RetG P k rs r hs' s := by
 obtain ⟨s2, h2, h3⟩ := h
 exact ⟨s2, hto.trans h2, h3⟩
theorem spec_scal {P : Program} {f : FuncId} (hf : Enters P f) (xs : List Value) (v : Value) (hx : v.oneCell' = true) (h : ∀ w, Calls P f xs.toArray w fun e w' => e = .returned v ∧ Below w.heap.size w w') : Spec P f (xs.map fun x => .c (.v x)) [] (.c (.v v)) [] := by
 refine ⟨hf, Nat.le_refl _, fun w F β vs M hv => ?_⟩
 have hvs : vs = xs := by
  have hl := hv.len
  apply List.ext_getElem?
  intro i
  by_cases hi : i < xs.length
  ·obtain ⟨u, hu, hr⟩ := hv.at i (.c (.v xs[i])) (by simp [hi])
   rw [hu, (relC.1 hr).1]; simp [hi]
  ·rw [List.getElem?_eq_none (by simp at hl; omega), List.getElem?_eq_none (by omega)]
 subst hvs
 refine (h w).mono ?_
 rintro e w' ⟨rfl, hb⟩
 obtain ⟨S1, S2⟩ := M.step (w' := w') (h' := nth []) (β' := β) (F' := F) (U' := (· < 0)) (fun _ => False) (fun _ _ => rfl) (fun _ _ => rfl) hb.os hb.tape hb.output hb.size (fun b h _ => hb.block b h) (fun _ h => h) (fun _ h => h)
  (fun b h => ⟨Nat.lt_of_lt_of_le (M.fin b h) hb.size, .inl h⟩) (fun _ _ h => h.elim) (fun _ _ h => h.elim) (fun _ _ _ _ _ h => h.elim) (fun _ _ h => h.elim)
 exact ⟨v, F, β, rfl, S1, relC.2 ⟨rfl, hx⟩, fun _ h => h, fun _ h => .inl h, fun _ _ _ h => ⟨_, h⟩⟩
theorem enters {P : Program} {f : FuncId} {fn : Func} (hf : P.funcs[f]? = some fn) (hb : fn.body.isSome = true) (hn : (fn.name == "runtime.NumGoroutine") = false) : Enters P f := ⟨fn, hf, hb, hn⟩
theorem cvL_append (ids : List Nat) (h : Nat → Chunk) : ∀ xs ys, cvL ids h (xs ++ ys) = cvL ids h xs ++ cvL ids h ys
 | [], ys => rfl
 | x :: r, ys => by simp [cvL, cvL_append ids h r ys]
theorem getD_map {α : Type} (f : α → List PV) (l : List α) (i : Nat) (h : i < l.length) : (l.map f).getD i [] = f l[i] := by simp [h]
theorem wk_self (x : AV) : Wk x x = True := eq_true (Wk.refl x)
theorem bsel_false (t p : Bool) : bsel t p false = (t && p) := by cases t <;> simp [bsel]
theorem bsel_true (t q : Bool) : bsel t true q = (t || q) := by cases t <;> simp [bsel]
theorem bool_imp (b : Bool) : (b = true → b = true) = True := by simp
theorem wrap_in (n : Int) (h1 : -9223372036854775808 ≤ n) (h2 : n ≤ 9223372036854775807) : IntKind.i64.wrap n = n := by rw [IntKind.wrap_i64]; omega
theorem look_n (i : Nat) : look [] i = .undef := rfl
theorem look_c (k i : Nat) (x : AV) (r : List (Nat × AV)) : look ((k, x) :: r) i = if k = i then x else look r i := rfl
theorem lookC_n (i : Nat) : lookC [] i = .dead := rfl
theorem lookC_c (k i : Nat) (x : Chunk) (r : List (Nat × Chunk)) : lookC ((k, x) :: r) i = if k = i then x else lookC r i := rfl
def Els {α : Type} (w : World) (B : Nat) (a : Option Addr) (sz : Nat) (enc : α → List Value) (xs : List α) : Prop :=
 xs = [] ∨ ∃ b o, a = some ⟨b, o, none⟩ ∧ b < B ∧ ∀ i j v, (xs[i]?).bind (fun x => (enc x)[j]?) = some v → w.cell? ⟨b, o + (i * sz + j), none⟩ = some v
theorem Els.nil {α : Type} (w : World) (B : Nat) (a : Option Addr) (sz : Nat) (enc : α → List Value) : Els w B a sz enc [] := .inl rfl
theorem Els.get {α : Type} {w : World} {B : Nat} {a : Option Addr} {sz : Nat} {enc : α → List Value} {xs : List α} (h : Els w B a sz enc xs) (i : Nat) (hi : i < xs.length) :
 ∃ b o, a = some ⟨b, o, none⟩ ∧ b < B ∧ ∀ j v, (enc xs[i])[j]? = some v → w.cell? ⟨b, o + (i * sz + j), none⟩ = some v := by
 rcases h with rfl | ⟨b, o, ha, hb, hc⟩
 ·simp at hi
 ·exact ⟨b, o, ha, hb, fun j v hv => hc i j v (by simp [hi, hv])⟩
theorem Els.below {α : Type} {w w' : World} {B B' : Nat} {a : Option Addr} {sz : Nat} {enc : α → List Value} {xs : List α} (h : Els w B a sz enc xs) (hb : Below B' w w') (hB : B ≤ B') : Els w' B a sz enc xs := by
 rcases h with rfl | ⟨b, o, ha, hlt, hc⟩
 ·exact .inl rfl
 ·exact .inr ⟨b, o, ha, hlt, fun i j v hv => (hb.cell (p := ⟨b, _, none⟩) (Nat.lt_of_lt_of_le hlt hB)).trans (hc i j v hv)⟩
theorem Els.mono {α : Type} {w : World} {B B' : Nat} {a : Option Addr} {sz : Nat} {enc : α → List Value} {xs : List α} (h : Els w B a sz enc xs) (hB : B ≤ B') : Els w B' a sz enc xs := by
 rcases h with rfl | ⟨b, o, ha, hlt, hc⟩
 ·exact .inl rfl
 ·exact .inr ⟨b, o, ha, by omega, hc⟩
theorem below_lit (w : World) (o : Obj) : Below w.heap.size w (w.alloc o) := (Below.refl _ _).alloc (Nat.le_refl _) _
def e64 (n : Nat) : List Value := [.int .u64 n]
def e32 (n : Nat) : List Value := [.int .u32 n]
def ei64 (n : Int) : List Value := [.int .i64 n]
theorem Els.u64 {w : World} {B : Nat} {a : Option Addr} {xs : List Nat} (h : Els w B a 1 e64 xs) (i : Nat) (hi : i < xs.length) :
 ∃ b o, a = some ⟨b, o, none⟩ ∧ b < B ∧ w.cell? ⟨b, o + i, none⟩ = some (.int .u64 (xs[i] : Nat)) := by
 obtain ⟨b, o, ha, hb, hc⟩ := h.get i hi
 exact ⟨b, o, ha, hb, by simpa using hc 0 _ rfl⟩
theorem Els.i64 {w : World} {B : Nat} {a : Option Addr} {xs : List Int} (h : Els w B a 1 ei64 xs) (i : Nat) (hi : i < xs.length) :
 ∃ b o, a = some ⟨b, o, none⟩ ∧ b < B ∧ w.cell? ⟨b, o + i, none⟩ = some (.int .i64 xs[i]) := by
 obtain ⟨b, o, ha, hb, hc⟩ := h.get i hi
 exact ⟨b, o, ha, hb, by simpa using hc 0 _ rfl⟩
theorem Els.u32 {w : World} {B : Nat} {a : Option Addr} {xs : List Nat} (h : Els w B a 1 e32 xs) (i : Nat) (hi : i < xs.length) :
 ∃ b o, a = some ⟨b, o, none⟩ ∧ b < B ∧ w.cell? ⟨b, o + i, none⟩ = some (.int .u32 (xs[i] : Nat)) := by
 obtain ⟨b, o, ha, hb, hc⟩ := h.get i hi
 exact ⟨b, o, ha, hb, by simpa using hc 0 _ rfl⟩
theorem take_snoc' {α : Type} (xs : List α) (k : Nat) (h : k < xs.length) : xs.take (k + 1) = xs.take k ++ [xs[k]] := by
 rw [List.take_succ_eq_append_getElem h]
theorem flatMap_get {α β : Type} (enc : α → List β) (sz : Nat) : ∀ (xs : List α), (∀ x ∈ xs, (enc x).length = sz) → ∀ i j, j < sz → (xs.flatMap enc)[i * sz + j]? = (xs[i]?).bind fun x => (enc x)[j]? := by
 intro xs
 induction xs with
 | nil => intro _ i j _; simp
 | cons x xs ih =>
  intro h i j hj
  have hx := h x (by simp)
  cases i with
  | zero => simp [List.flatMap_cons, List.getElem?_append, hx, hj]
  | succ i =>
   have e : (i + 1) * sz + j = sz + (i * sz + j) := by rw [Nat.add_mul]; omega
   rw [List.flatMap_cons, List.getElem?_append_right (by omega), e, hx, Nat.add_sub_cancel_left, ih (fun y hy => h y (by simp [hy])) i j hj]
   simp
theorem flatMap_len {α β : Type} (enc : α → List β) (sz : Nat) (xs : List α) (h : ∀ x ∈ xs, (enc x).length = sz) : (xs.flatMap enc).length = xs.length * sz := by
 induction xs with
 | nil => simp
 | cons x xs ih => rw [List.flatMap_cons, List.length_append, h x (by simp), ih fun y hy => h y (by simp [hy]), List.length_cons, Nat.add_mul]; omega
theorem mul_div_lt {j sz n : Nat} (h : j < n * sz) : j / sz < n ∧ j / sz * sz + j % sz = j ∧ j % sz < sz := by
 have hs : 0 < sz := by
  rcases Nat.eq_zero_or_pos sz with rfl | h0
  ·simp at h
  ·exact h0
 exact ⟨(Nat.div_lt_iff_lt_mul hs).2 h, by rw [Nat.mul_comm]; exact Nat.div_add_mod j sz, Nat.mod_lt _ hs⟩
theorem Els.news {α : Type} {w : World} {B : Nat} {a : Option Addr} {sz : Nat} {enc : α → List Value} {xs : List α} (h : Els w B a sz enc xs) (he : ∀ x ∈ xs, (enc x).length = sz) :
 ∀ ad, a = some ad → ∀ j u, (xs.flatMap enc)[j]? = some u → w.cell? (ad.add j) = some u := by
 intro ad had j u hu
 rcases h with rfl | ⟨b, o, ha, hb, hc⟩
 ·simp at hu
 ·rw [ha] at had
  obtain rfl := Option.some.inj had
  have hj : j < xs.length * sz := by rw [← flatMap_len enc sz xs he]; exact (List.getElem?_eq_some_iff.1 hu).1
  obtain ⟨h1, h2, h3⟩ := mul_div_lt hj
  have := hc (j / sz) (j % sz) u (by rw [← flatMap_get enc sz xs he _ _ h3, h2]; exact hu)
  rw [h2] at this
  rw [Addr.add_lit]; exact this
theorem Els.take {α : Type} {w : World} {B : Nat} {a : Option Addr} {sz : Nat} {enc : α → List Value} {xs : List α} (h : Els w B a sz enc xs) (m : Nat) : Els w B a sz enc (xs.take m) := by
 rcases h with rfl | ⟨b, o, ha, hb, hc⟩
 ·exact .inl (by simp)
 ·refine .inr ⟨b, o, ha, hb, fun i j v hv => ?_⟩
  rw [List.getElem?_take] at hv
  split at hv
  ·exact hc i j v hv
  ·simp at hv
theorem Els.drop {α : Type} {w : World} {B b o : Nat} {sz : Nat} {enc : α → List Value} {xs : List α} (h : Els w B (some ⟨b, o, none⟩) sz enc xs) (m : Nat) : Els w B (some ⟨b, o + m * sz, none⟩) sz enc (xs.drop m) := by
 rcases h with rfl | ⟨b', o', ha, hb, hc⟩
 ·exact .inl (by simp)
 ·simp only [Option.some.injEq, Addr.mk.injEq, and_true] at ha
  obtain ⟨rfl, rfl⟩ := ha
  refine .inr ⟨b, o + m * sz, rfl, hb, fun i j v hv => ?_⟩
  rw [List.getElem?_drop] at hv
  have := hc (m + i) j v hv
  rwa [Nat.add_mul, show o + (m * sz + i * sz + j) = o + m * sz + (i * sz + j) from by omega] at this
theorem Els.b0 {α : Type} {w : World} {B : Nat} {a : Option Addr} {sz : Nat} {enc : α → List Value} {xs : List α} (h : Els w B a sz enc xs) : xs = [] ∨ ∃ b o, a = some ⟨b, o, none⟩ ∧ b < B := by
 rcases h with h | ⟨b, o, h1, h2, _⟩
 ·exact .inl h
 ·exact .inr ⟨b, o, h1, h2⟩
def ElT (P : Program) (t e size bytes : Nat) (z : Value) : Prop :=
 P.underlying t = some (.slice e) ∧ 0 < size ∧ ∃ i, P.info? e = some i ∧ i.zero = some z ∧ i.size = size ∧ i.bytes = bytes ∧ z.cells.size = size
theorem ElT.mk' {P : Program} {t e size bytes : Nat} {z : Value} (h1 : P.underlying t = some (.slice e)) (h2 : (P.info? e).map (fun i => (i.zero, i.size, i.bytes)) = some (some z, size, bytes)) (h3 : z.cells.size = size) (h4 : 0 < size) : ElT P t e size bytes z := by
 obtain ⟨i, hi, hz0, hz1, hz2⟩ := info_parts h2
 exact ⟨h1, h4, i, hi, hz0, hz1, hz2, h3⟩
theorem wpApp {P : Program} (w : World) {ops : Array Oper} {rest : List Oper} {o : Oper} {a : Act} {Q : Exit → Act → World → Prop} (hgd : o.guard = none) (s x : Operand) (t : TypeId)
 (ho : o.op = .call { callee := .builtin .append, args := #[s, x], argTypes := #[t, t] })
 (base e size bytes : Nat) {z : Value} (hT : ElT P t e size bytes z)
 (v : Value) (n : Nat) (xs : List Value) (hs : a.eval s = v) (hown : w.ownsRow base e size v n xs)
 (ao : Option Addr) (m c : Nat) (news : List Value) (hx : a.eval x = .slice ao m c) (hl : news.length = m * size) (hnone : ao = none → m = 0 ∧ c = 0)
 (hnews : ∀ ad, ao = some ad → ∀ j u, news[j]? = some u → w.cell? (ad.add j) = some u) (h1 : ∀ u ∈ news, u.oneCell' = true)
 (h63 : n + m ≤ maxLen) (hbytes : (n + m) * bytes ≤ 140737488355328) (hbase : base ≤ w.heap.size)
 (h : ∀ v' w', w'.ownsRow base e size v' (n + m) (xs ++ news) → w.grownBy w' v.ownBlock → (v' = .slice none 0 0 ↔ v = .slice none 0 0 ∧ m = 0) → wpList P ops Q rest (a.put o.dst v') w') : wpList P ops Q (o :: rest) a w := by
 obtain ⟨ht, hsz, i, hi, hz, hsize, hby, hzs⟩ := hT
 cases ao with
 | some ad => exact wpList_append_own w hgd s x t ho base e i z size bytes ht hi hz hsize hby hzs hsz v n xs hs hown ad m c news hx hl (hnews ad rfl) h1 h63 hbytes hbase h
 | none =>
  obtain ⟨rfl, rfl⟩ := hnone rfl
  have hn : news = [] := List.eq_nil_of_length_eq_zero (by simpa using hl)
  subst hn
  exact wpList_append_own_none hgd s x t ho base e i size ht hi v n xs hs hown hx (by simpa using h v w (by simpa using hown) (World.grownBy.refl _ _) (by simp))
theorem madeCells_rep (z : Value) (n size : Nat) (h : z.cells.size = size) (_ : 0 < size) : (madeCells z.cells (n * size)).toList = (List.replicate n z.cells.toList).flatten := by
 have hl : ∀ x ∈ List.replicate n z.cells.toList, x.length = size := by
  intro x hx
  obtain ⟨_, rfl⟩ := List.mem_replicate.1 hx
  simpa using h
 apply List.ext_getElem?
 intro j
 have hflat : (List.replicate n z.cells.toList).flatten = (List.replicate n z.cells.toList).flatMap id := by rw [List.flatMap_id]
 rw [hflat]
 by_cases hj : j < n * size
 ·obtain ⟨h1, h2, h3⟩ := mul_div_lt hj
  have := flatMap_get (id : List Value → List Value) size (List.replicate n z.cells.toList) hl (j / size) (j % size) h3
  rw [h2] at this
  rw [this]
  simp only [madeCells]
  rw [List.getElem?_replicate, if_pos h1]
  simp only [Array.toList_map, Array.toList_range, List.getElem?_map, List.getElem?_range hj, Option.map_some, Option.bind_some, id]
  have hlt : j % size < z.cells.size := by omega
  rw [h]
  simp [hlt]
 ·have hlen := flatMap_len (id : List Value → List Value) size (List.replicate n z.cells.toList) hl
  rw [List.length_replicate] at hlen
  rw [List.getElem?_eq_none (by simp [madeCells]; omega), List.getElem?_eq_none (by omega)]
theorem wpMake {P : Program} (w : World) {ops : Array Oper} {rest : List Oper} {o : Oper} {a : Act} {Q : Exit → Act → World → Prop}
 (hg : o.guard = none) (l c : Operand) (t : TypeId) (hop : o.op = Op.makeSlice t l c)
 (base e size bytes : Nat) {z : Value} (hT : ElT P t e size bytes z) (n : Nat) (L C : Int) (hl : a.eval l = .int .i64 L) (hc : a.eval c = .int .i64 C) (hL : L = (n : Int)) (hC : C = (n : Int))
 (b2 : bytes * n ≤ 281474976710656) (b3 : n ≤ maxLen) (b4 : base ≤ w.heap.size)
 (hK : ∀ w', w'.ownsRow base e size (.slice (some ⟨w.heap.size, 0, none⟩) n n) n (List.replicate n z.cells.toList).flatten → w.grownBy w' none → wpList P ops Q rest (a.put o.dst (.slice (some ⟨w.heap.size, 0, none⟩) n n)) w') :
 wpList P ops Q (o :: rest) a w := by
 obtain ⟨ht, hsz, i, hi, hz, hsize, hby, hzs⟩ := hT
 refine wpList_make_full w hg l c t hop base e i z size ht hi hz hsize .i64 .i64 L C n hl hc hL hC (by rw [hby]; exact b2) b3 b4 fun w' h1 h2 => ?_
 rw [madeCells_rep z n size hzs hsz] at h1
 exact hK w' h1 h2
def I64 (n : Int) : Prop := -9223372036854775808 ≤ n ∧ n ≤ 9223372036854775807
theorem ret_u32 {a b : Int} (h : a = b) : Ending.returned (.int .u32 a) = .returned (.int .u32 b) := by rw [h]
theorem ret_u64 {a b : Int} (h : a = b) : Ending.returned (.int .u64 a) = .returned (.int .u64 b) := by rw [h]
theorem bytes_snoc (s : ByteArray) (k : Nat) (h : k < s.size) : s.data.toList.take (k + 1) = s.data.toList.take k ++ [s[k]] := by
 rw [List.take_succ_eq_append_getElem (by simpa using h)]; rfl
theorem take_all (s : ByteArray) : s.data.toList.take s.size = s.data.toList := List.take_of_length_le (Nat.le_of_eq Array.length_toList)
theorem u8_ofNat_toNat (x : Nat) (h : x < 256) : (UInt8.ofNat x).toNat = x := by simp; omega
theorem bs_append (l k : List UInt8) : (⟨l.toArray⟩ : ByteArray) ++ ⟨k.toArray⟩ = ⟨(l ++ k).toArray⟩ := by
 apply ByteArray.ext; simp
theorem bs_size (l : List UInt8) : (⟨l.toArray⟩ : ByteArray).size = l.length := by show l.toArray.size = _; simp
def ixOf {α : Type} (p : α → Bool) (xs : List α) : Int := match xs.findIdx? p with | none => -1 | some i => (i : Int)
theorem ixOf_hit {α : Type} (p : α → Bool) (xs : List α) (k : Nat) (hk : k < xs.length) (h : p xs[k] = true) (h0 : ∀ j (hj : j < xs.length), j < k → p xs[j] = false) : ixOf p xs = k := by
 have : xs.findIdx? p = some k := List.findIdx?_eq_some_iff_getElem.2 ⟨hk, h, fun j hj => by rw [h0 j (by omega) hj]; decide⟩
 rw [ixOf, this]
theorem ixOf_miss {α : Type} (p : α → Bool) (xs : List α) (h0 : ∀ j (hj : j < xs.length), p xs[j] = false) : ixOf p xs = -1 := by
 have : xs.findIdx? p = none := by
  rw [List.findIdx?_eq_none_iff]
  intro x hx
  obtain ⟨j, hj, rfl⟩ := List.mem_iff_getElem.1 hx
  exact h0 j hj
 rw [ixOf, this]
theorem elT_u8 : ElT Tryz.prog 74 5 1 1 (.int .u8 0) := ElT.mk' Tryz.underlying74 (by kernel_rfl) rfl (by decide)
end Go.Proofs.YtllmjdcblfkfaaaGreat
namespace Go.Proofs.YtllmjdcblfkfaaaGreat
set_option linter.all false
open Go.RowKit Go.ChangeShapes Go.WideShapes Go.ChangeAt
def Opens (P : Program) (T sz : Nat) (w : World) {α : Type} (enc : α → List Value) (ok : α → Prop) : Prop :=
 ∀ (H : Type) (eH : TypeId × Value → H) (fuel : Nat) (cs : List Value) (y : DataW H × List MemPlace), DataW.trod eH P w 0 (fun _ => true) true fuel T cs = some y → (∀ n ∈ y.1.weights P T, n ≤ reachBytes) → ∃ x : α, cs = enc x ∧ cs.length = sz ∧ ok x
theorem Opens.int {P : Program} {T : Nat} {w : World} {k : IntKind} (h : P.underlying T = some (.int k)) : Opens P T 1 w (fun n : Int => [.int k n]) (fun n => (Lit.int k n).wf = true) := by
 intro H eH fuel cs y hy _
 obtain ⟨n, rfl, _, hw⟩ := DataW.trod_int h hy
 exact ⟨n, rfl, rfl, hw⟩
theorem wf_i64' {n : Int} (h : (Lit.int .i64 n).wf = true) : -9223372036854775808 ≤ n ∧ n ≤ 9223372036854775807 := by
 simpa [Lit.wf, IntKind.min, IntKind.max, IntKind.signed, IntKind.bits] using h
theorem wf_u64' {n : Int} (h : (Lit.int .u64 n).wf = true) : 0 ≤ n ∧ n ≤ 18446744073709551615 := by
 simpa [Lit.wf, IntKind.min, IntKind.max, IntKind.signed, IntKind.bits] using h
theorem wf_u32' {n : Int} (h : (Lit.int .u32 n).wf = true) : 0 ≤ n ∧ n ≤ 4294967295 := by
 simpa [Lit.wf, IntKind.min, IntKind.max, IntKind.signed, IntKind.bits] using h
theorem Opens.i64 {P : Program} {T : Nat} {w : World} (h : P.underlying T = some (.int .i64)) : Opens P T 1 w ei64 (fun n => -9223372036854775808 ≤ n ∧ n ≤ 9223372036854775807) := by
 intro H eH fuel cs y hy _
 obtain ⟨n, rfl, _, hw⟩ := DataW.trod_int h hy
 exact ⟨n, rfl, rfl, wf_i64' hw⟩
theorem Opens.u64 {P : Program} {T : Nat} {w : World} (h : P.underlying T = some (.int .u64)) : Opens P T 1 w e64 (fun n => n < 18446744073709551616) := by
 intro H eH fuel cs y hy _
 obtain ⟨n, rfl, _, hw⟩ := DataW.trod_int h hy
 have := wf_u64' hw
 exact ⟨n.toNat, by simp only [e64]; congr 2; omega, rfl, by omega⟩
theorem Opens.u32 {P : Program} {T : Nat} {w : World} (h : P.underlying T = some (.int .u32)) : Opens P T 1 w e32 (fun n => n < 4294967296) := by
 intro H eH fuel cs y hy _
 obtain ⟨n, rfl, _, hw⟩ := DataW.trod_int h hy
 have := wf_u32' hw
 exact ⟨n.toNat, by simp only [e32]; congr 2; omega, rfl, by omega⟩
def eBool (b : Bool) : List Value := [.bool b]
theorem Opens.bool {P : Program} {T : Nat} {w : World} (h : P.underlying T = some .bool) : Opens P T 1 w eBool (fun _ => True) := by
 intro H eH fuel cs y hy _
 obtain ⟨b, rfl, _⟩ := DataW.trod_bool h hy
 exact ⟨b, rfl, rfl, trivial⟩
def eStr (s : ByteArray) : List Value := [.string s]
theorem Opens.str {P : Program} {T : Nat} {w : World} (h : P.underlying T = some .string) : Opens P T 1 w eStr (fun s => s.size ≤ 140737488351232) := by
 intro H eH fuel cs y hy hw
 obtain ⟨s, rfl, rfl, hs⟩ := DataW.trod_string h hy
 exact ⟨s, rfl, rfl, (by
  have h := hw s.data.toList.length (List.mem_singleton.2 rfl)
  have e : s.data.toList.length = s.size := Array.length_toList
  rw [e] at h
  exact h)⟩
structure SL (α : Type) where
 a : Option Addr
 c : Nat
 xs : List α
def SL.val {α : Type} (s : SL α) : Value := .slice s.a s.xs.length s.c
def SL.enc {α : Type} (s : SL α) : List Value := [s.val]
structure SLok {α : Type} (w : World) (B : Nat) (sz bts : Nat) (enc : α → List Value) (ok : α → Prop) (s : SL α) : Prop where
 els : Els w B s.a sz enc s.xs
 each : ∀ x ∈ s.xs, ok x ∧ (enc x).length = sz
 cap : s.xs.length ≤ s.c
 max : s.c ≤ maxLen
 reach : s.c * bts ≤ 140737488351232
 nil : s.a = none → s.xs.length = 0 ∧ s.c = 0
theorem SLok.below {α : Type} {w w' : World} {B B' sz bts : Nat} {enc : α → List Value} {ok : α → Prop} {s : SL α} (h : SLok w B sz bts enc ok s) (hb : Below B' w w') (hB : B ≤ B') : SLok w' B sz bts enc ok s :=
 ⟨h.els.below hb hB, h.each, h.cap, h.max, h.reach, h.nil⟩
theorem Opens.slice {P : Program} {T E sz bts : Nat} {w : World} {α : Type} {enc : α → List Value} {ok : α → Prop} (hT : P.underlying T = some (.slice E)) (hc : P.cellsOf E = sz) (hsz : 0 < sz) (hby : P.bytesOf E = bts) (hE : Opens P E sz w enc ok) :
 Opens P T 1 w (SL.enc (α := α)) (SLok w w.heap.size sz bts enc ok) := by
 intro H eH fuel cs y hy hw
 rcases Deep.open_slice hT hy with ⟨rfl, _⟩ | ⟨a, len, cap, m, n, D, Pl, rfl, _, hl, hm, hmm, hy2, hx⟩
 ·exact ⟨⟨none, 0, []⟩, rfl, rfl, ⟨.inl rfl, by simp, Nat.le_refl _, Nat.zero_le _, by simp, fun _ => ⟨rfl, rfl⟩⟩⟩
 ·simp only [if_true] at hmm
  subst hmm
  subst hy2
  have hreach : m * bts ≤ 140737488351232 := by
   have h := hw ((len + (m - len)) * P.bytesOf E) (by simp [DataW.weights, hT])
   rw [show len + (m - len) = m from by omega, hby] at h
   exact h
  have hwe : ∀ i, i < len → ∀ k ∈ (D i).weights P E, k ≤ reachBytes := by
   intro i hi k hk
   refine hw k ?_
   simp only [DataW.weights, hT, List.mem_cons, List.mem_append]
   refine .inr (.inl ?_)
   have key : ∀ (l : List (DataW H)), D i ∈ l → k ∈ DataW.weightsAll P E l := by
    intro l
    induction l with
    | nil => intro h; simp at h
    | cons d l ih =>
     intro h
     simp only [DataW.weightsAll, List.mem_append]
     rcases List.mem_cons.1 h with rfl | h
     ·exact .inl hk
     ·exact .inr (ih h)
   exact key _ (List.mem_map.2 ⟨i, List.mem_range.2 hi, rfl⟩)
  have hx2 : ∀ i, i < len → ∃ x : α, ok x ∧ (enc x).length = sz ∧ ∀ j, j < sz → w.cell? ((a.add (i * sz)).add j) = (enc x)[j]? := by
   intro i hi
   obtain ⟨cs', h1, h2⟩ := hx i (by omega)
   obtain ⟨x, rfl, hlen, hok⟩ := hE H eH n cs' _ h2 (hwe i hi)
   obtain ⟨_, _, h3⟩ := World.cells?_some h1
   rw [hc] at h3
   exact ⟨x, hok, hlen, h3⟩
  by_cases h0 : len = 0
  ·subst h0
   exact ⟨⟨some a, m, []⟩, rfl, rfl, ⟨.inl rfl, by simp, Nat.zero_le _, hm, hreach, fun h => by simp at h⟩⟩
  ·obtain ⟨x0, _⟩ := hx2 0 (by omega)
   have : Inhabited α := ⟨x0⟩
   obtain ⟨f, hf⟩ := Deep.choose_lt (p := fun i x => ok x ∧ (enc x).length = sz ∧ ∀ j, j < sz → w.cell? ((a.add (i * sz)).add j) = (enc x)[j]?) hx2
   have hlen : ((List.range len).map f).length = len := by simp
   refine ⟨⟨some a, m, (List.range len).map f⟩, by simp [SL.enc, SL.val], rfl, ⟨?_, ?_, by simpa using hl, hm, hreach, fun h => by simp at h⟩⟩
   ·obtain ⟨_, hl0, hc0⟩ := hf 0 (by omega)
    have hcell := hc0 0 hsz
    rw [List.getElem?_eq_getElem (by omega)] at hcell
    simp only [Nat.zero_mul] at hcell
    have hadd0 : ((a.add 0).add 0) = a := by simp [Addr.add]
    rw [hadd0] at hcell
    have hsp := World.cell?_spot hcell
    have hlt := World.block_lt_of_cell? w a hcell
    obtain ⟨b, o, sp⟩ := a
    simp only at hsp
    subst hsp
    refine .inr ⟨b, o, rfl, hlt, fun i j v hv => ?_⟩
    cases hxi : ((List.range len).map f)[i]? with
    | none => rw [hxi] at hv; simp at hv
    | some x =>
     rw [hxi] at hv
     have hi : i < len := by have := (List.getElem?_eq_some_iff.1 hxi).1; simpa using this
     have hfx : f i = x := by simpa [hi] using hxi
     obtain ⟨_, hl1, hc1⟩ := hf i hi
     have hj : j < sz := by
      have hv' : (enc x)[j]? = some v := by simpa using hv
      have := (List.getElem?_eq_some_iff.1 hv').1
      rw [← hfx, hl1] at this; exact this
     have := hc1 j hj
     rw [hfx] at this
     rw [Deep.add_add, Addr.add_lit] at this
     rw [this]; simpa using hv
   ·intro x hx
    simp only [List.mem_map, List.mem_range] at hx
    obtain ⟨i, hi, rfl⟩ := hx
    obtain ⟨h1, h2, _⟩ := hf i hi
    exact ⟨h1, h2⟩
theorem Opens.map {P : Program} {T sz : Nat} {w : World} {α β : Type} {enc : α → List Value} {ok : α → Prop} {enc' : β → List Value} {ok' : β → Prop} (h : Opens P T sz w enc ok) (f : α → β) (hf : ∀ x, enc' (f x) = enc x) (hok : ∀ x, ok x → ok' (f x)) : Opens P T sz w enc' ok' := by
 intro H eH fuel cs y hy hw
 obtain ⟨x, rfl, hl, ho⟩ := h H eH fuel cs y hy hw
 exact ⟨f x, (hf x).symm, hl, hok x ho⟩
def OpensF (P : Program) (w : World) (fs : List Field) (o sz : Nat) {α : Type} (enc : α → List Value) (ok : α → Prop) : Prop :=
 ∀ (H : Type) (eH : TypeId × Value → H) (fuel : Nat) (cs : List Value), cs.length = o + sz →
  (∀ f ∈ fs, ∃ y, DataW.trod eH P w 0 (fun _ => true) true fuel f.type ((cs.drop f.offset).take (P.cellsOf f.type)) = some y ∧ ∀ n ∈ y.1.weights P f.type, n ≤ reachBytes) → ∃ x : α, cs.drop o = enc x ∧ ok x
theorem OpensF.nil {P : Program} {w : World} {o : Nat} : OpensF P w [] o 0 (fun _ : Unit => []) (fun _ => True) := by
 intro H eH fuel cs hl _
 exact ⟨(), List.drop_eq_nil_of_le (by omega), trivial⟩
theorem OpensF.cons {P : Program} {w : World} {f : Field} {fs : List Field} {o n sz : Nat} {α β : Type} {enc : α → List Value} {ok : α → Prop} {enc' : β → List Value} {ok' : β → Prop}
 (ho : f.offset = o) (hn : P.cellsOf f.type = n) (h : Opens P f.type n w enc ok) (h' : OpensF P w fs (o + n) sz enc' ok') :
 OpensF P w (f :: fs) o (n + sz) (fun x : α × β => enc x.1 ++ enc' x.2) (fun x => ok x.1 ∧ ok' x.2) := by
 intro H eH fuel cs hl hall
 obtain ⟨y, hy, hw⟩ := hall f (by simp)
 rw [ho, hn] at hy
 obtain ⟨x, hx, _, hok⟩ := h H eH fuel _ y hy hw
 obtain ⟨x', hx', hok'⟩ := h' H eH fuel cs (by omega) (fun g hg => hall g (by simp [hg]))
 refine ⟨(x, x'), ?_, hok, hok'⟩
 show cs.drop o = enc x ++ enc' x'
 rw [← hx, ← hx', ← List.drop_drop, List.take_append_drop]
theorem Opens.struct {P : Program} {T sz : Nat} {w : World} {fs : Array Field} {α : Type} {enc : α → List Value} {ok : α → Prop} (hT : P.underlying T = some (.struct fs)) (hc : P.cellsOf T = sz) (h : OpensF P w fs.toList 0 sz enc ok) :
 Opens P T sz w enc ok := by
 intro H eH fuel cs y hy hw
 obtain ⟨xs, n, _, rfl, hl, hlen, hfs⟩ := DataW.trod_struct hT hy
 obtain ⟨x, hx, hok⟩ := h H eH n cs (by omega) (fun f hf => by
  obtain ⟨i, hi, he⟩ := List.getElem_of_mem hf
  have hi' : i < fs.size := by simpa using hi
  have hfi : fs[i]? = some f := by rw [Array.getElem?_eq_getElem hi']; simpa using he
  have := hfs i f hfi
  have hx : xs[i]? = some (xs[i]'(by omega)) := List.getElem?_eq_getElem (by omega)
  rw [hx] at this
  refine ⟨_, this, fun k hk => hw k ?_⟩
  simp only [DataW.weights, hT]
  refine DataW.weights_mem_each (j := i) (t := f.type) ?_ ?_ k hk
  ·rw [List.getElem?_map, Array.getElem?_toList, hfi]; rfl
  ·rw [List.getElem?_map, hx]; rfl)
 exact ⟨x, by simpa using hx, by omega, hok⟩
theorem Opens.arg {P : Program} {T sz : Nat} {w : World} {α : Type} {enc : α → List Value} {ok : α → Prop} (h : Opens P T sz w enc ok) {H : Type} {eH : TypeId × Value → H} {v : Value} {d : DataW H} {p : List MemPlace}
 (hT : DataW.Trod eH P w 0 (fun _ => true) true T v d p) {ts : List TypeId} {ds : List (DataW H)} (hz : (DataW.weightsEach P ts ds).all (· ≤ reachBytes) = true) (j : Nat) (h1 : ts[j]? = some T) (h2 : ds[j]? = some d) : ∃ x : α, v.cells.toList = enc x ∧ ok x := by
 obtain ⟨fuel, hf⟩ := hT
 obtain ⟨x, h1, _, h2⟩ := h H eH fuel _ _ hf (fun n hn => by
  have := List.all_eq_true.1 hz n (DataW.weights_mem_each h1 h2 n hn)
  simpa using this)
 exact ⟨x, h1, h2⟩
theorem arg_struct {P : Program} {w : World} {base t : Nat} {v : Value} {cs : List Value} {fs : Array Field} (h : Value.okWide P w .any base t v) (hs : P.underlying t = some (.struct fs)) (hc : v.cells.toList = cs) : v = .agg cs.toArray := by
 simp only [Value.okWide, hs] at h
 obtain ⟨cs', rfl, _⟩ := h
 subst hc
 simp [Value.cells]
end Go.Proofs.YtllmjdcblfkfaaaGreat
namespace Go.Proofs.YtllmjdcblfkfaaaGreat
set_option linter.all false
open Go.RowKit
theorem rel_c {w : World} {F : Nat → Prop} {b : Nat} : ∀ (ps : List PV) (vs : List Value) (o : Nat), vs.length = ps.length → (∀ (j : Nat) v, vs[j]? = some v → w.cell? ⟨b, o + j, none⟩ = some v) → (∀ (j : Nat) p u, ps[j]? = some p → vs[j]? = some u → RelP w F p u) → RelC w F b o ps
 | [], _, _, _, _, _ => by simp only [RelC]
 | p :: ps, [], _, h, _, _ => by simp at h
 | p :: ps, v :: vs, o, h, hc, hr => by
  simp only [RelC]
  refine ⟨⟨v, by have := hc 0 v rfl; simpa using this, hr 0 p v rfl rfl⟩, rel_c ps vs (o + 1) (by simpa using h) (fun j u hu => ?_) (fun j q u h1 h2 => hr (j + 1) q u h1 h2)⟩
  have := hc (j + 1) u hu
  rwa [show o + (j + 1) = o + 1 + j from by omega] at this
theorem rel_e {α : Type} {w : World} {F : Nat → Prop} {b sz : Nat} {enc : α → List Value} {pv : α → List PV} : ∀ (xs : List α) (o : Nat), (∀ i j v, (xs[i]?).bind (fun x => (enc x)[j]?) = some v → w.cell? ⟨b, o + (i * sz + j), none⟩ = some v) →
 (∀ x ∈ xs, (pv x).length = sz ∧ (enc x).length = sz ∧ ∀ (j : Nat) p u, (pv x)[j]? = some p → (enc x)[j]? = some u → RelP w F p u) → RelE w F b sz o (xs.map pv)
 | [], _, _, _ => by simp only [List.map_nil, RelE]
 | x :: xs, o, hc, hp => by
  simp only [List.map_cons, RelE]
  obtain ⟨h1, h2, h3⟩ := hp x (by simp)
  refine ⟨h1, rel_c (pv x) (enc x) o (by rw [h1, h2]) (fun j v hv => ?_) h3, rel_e xs (o + sz) (fun i j v hv => ?_) fun y hy => hp y (List.mem_cons_of_mem _ hy)⟩
  ·have := hc 0 j v (by simpa using hv); simpa using this
  ·have := hc (i + 1) j v (by simpa using hv)
   rwa [show o + ((i + 1) * sz + j) = o + sz + (i * sz + j) from by rw [Nat.succ_mul]; omega] at this
theorem rel_sl {α : Type} {w : World} {B sz bts : Nat} {enc : α → List Value} {ok : α → Prop} {s : SL α} {pv : α → List PV} (h : SLok w B sz bts enc ok s)
 (hp : ∀ x ∈ s.xs, ok x → (pv x).length = sz ∧ ∀ (j : Nat) p u, (pv x)[j]? = some p → (enc x)[j]? = some u → RelP w (· < B) p u) : RelP w (· < B) (.sl sz (s.xs.map pv)) s.val := by
 simp only [RelP]
 refine ⟨s.a, s.c, by simp [SL.val], by simpa using h.cap, h.max, ?_⟩
 rcases h.els with h1 | ⟨b, o, ha, hb, hc⟩
 ·exact .inl (by rw [h1]; rfl)
 ·refine .inr ⟨b, o, ha, hb, rel_e s.xs o hc fun x hx => ?_⟩
  obtain ⟨h1, h2⟩ := h.each x hx
  obtain ⟨h3, h4⟩ := hp x hx h1
  exact ⟨h3, h2, h4⟩
theorem spec_law {P : Program} {f : FuncId} {args : List AV} (S : Spec P f args [] (B true) []) {w : World} {vs : List Value} (hr : RelL (· < 0) w (· < w.heap.size) (fun _ => none) args vs) :
 Calls P f vs.toArray w fun e w' => e = .returned (.bool true) ∧ Below w.heap.size w w' := by
 have M : MemOk w (inB fun _ => none) (· < ([] : List Chunk).length) (· < w.heap.size) (fun _ => none) (nth []) w :=
  ⟨Nat.le_refl _, rfl, rfl, rfl, fun _ _ _ => rfl, fun _ h => h, fun _ _ h => by simp at h, fun _ h => absurd rfl h, fun _ _ _ _ _ h => by simp at h, fun _ _ _ h => by simp at h⟩
 refine (S.2.2 w (· < w.heap.size) (fun _ => none) vs M hr).mono ?_
 rintro e w' ⟨v, F', β', rfl, M', hv, _⟩
 refine ⟨by rw [relB.1 hv], M'.os, M'.tape, M'.output, M'.size, fun b hb => M'.frame b hb ?_⟩
 rintro ⟨i, bd, h, _⟩
 simp at h
theorem relL_nil {U F : Nat → Prop} {β : Nat → Option Bind} {w : World} : RelL U w F β [] [] := by simp only [RelL]
theorem relL_cons {U F : Nat → Prop} {β : Nat → Option Bind} {w : World} {x : AV} {xs : List AV} {v : Value} {vs : List Value} (h1 : RelA U w F β x v) (h2 : RelL U w F β xs vs) : RelL U w F β (x :: xs) (v :: vs) := by
 simp only [RelL]; exact ⟨v, vs, rfl, h1, h2⟩
theorem relA_agg {U F : Nat → Prop} {β : Nat → Option Bind} {w : World} {xs : List AV} {vs : List Value} (h : RelL U w F β xs vs) (h1 : ∀ x ∈ vs, x.oneCell' = true) : RelA U w F β (.agg xs) (.agg vs.toArray) := by
 simp only [RelA]; exact ⟨vs.toArray, rfl, by simpa using h, by simpa using h1⟩
theorem relA_c {U F : Nat → Prop} {β : Nat → Option Bind} {w : World} {p : PV} {v : Value} (h : RelP w F p v) : RelA U w F β (.c p) v := by simp only [RelA]; exact h
theorem relP_v {F : Nat → Prop} {w : World} {v : Value} (h : v.oneCell' = true) : RelP w F (.v v) v := by simp [RelP, h]
theorem RelL.setAt {U F : Nat → Prop} {β : Nat → Option Bind} {w : World} {y : AV} : ∀ {cs : List AV} {us : List Value} (j : Nat), RelL U w F β cs us → (∀ u, us[j]? = some u → RelA U w F β y u) → RelL U w F β (cs.set j y) us
 | [], us, j, h, _ => by simpa using h
 | x :: r, us, j, h, hy => by
  simp only [RelL] at h
  obtain ⟨u, us', rfl, h1, h2⟩ := h
  cases j with
  | zero => simp only [List.set_cons_zero, RelL]; exact ⟨u, us', rfl, hy u rfl, h2⟩
  | succ j => simp only [List.set_cons_succ, RelL]; exact ⟨u, us', rfl, h1, RelL.setAt j h2 (fun v hv => hy v (by simpa using hv))⟩
theorem To.nilC {k : Nat} {s : St} (id j e sz tt : Nat) (cs : List AV) (hc : lookC s.h id = .blk tt cs) (hj : cs[j]? = some (.c (.v (.slice none 0 0)))) : ToK k s ⟨s.t, (s.n, .row e sz []) :: (id, .blk tt (cs.set j (.own s.n))) :: s.h, s.n + 1⟩ := by
 intro H F β a w hk C
 obtain ⟨bd0, hb1, hb2⟩ := C.m.ch id (by rw [hc]; simp)
 have hidn : id ≠ s.n := fun h => absurd (C.m.used _ _ hb1) (by rw [h]; exact Nat.lt_irrefl _)
 obtain ⟨M, E⟩ := C.m.step (w' := w) (h' := lookC ((s.n, .row e sz []) :: (id, .blk tt (cs.set j (.own s.n))) :: s.h)) (β' := updB β s.n (some ⟨.slice none 0 0, none, 0, sz, []⟩)) (F' := F) (U' := (· < s.n + 1)) (fun i => i = s.n ∨ i = id)
  (fun i hi => by simp only [not_or] at hi; simp [updB, Ne.symm hi.1]) (fun i hi => by simp only [not_or] at hi; simp [lookC, Ne.symm hi.1, Ne.symm hi.2]) rfl rfl rfl (Nat.le_refl _) (fun _ _ _ => rfl) (fun i hi => Nat.lt_succ_of_lt hi) (fun b hb => hb)
  (fun b hb => ⟨C.m.fin b hb, .inl hb⟩)
  (fun i bd' hi hu hb => by
   rcases hi with rfl | rfl
   ·exact absurd hu (Nat.lt_irrefl _)
   ·exact ⟨_, by simpa [updB, Ne.symm hidn] using hb⟩)
  (fun i bd' hi hb => by
   rcases hi with rfl | rfl
   ·simp only [updB, if_true, Option.some.injEq] at hb
    subst hb
    exact ⟨Nat.lt_succ_self _, fun b hb => by have := Bind.has_nil hb; simp at this⟩
   ·have hb' : β i = some bd' := by simpa [updB, Ne.symm hidn] using hb
    refine ⟨Nat.lt_succ_of_lt (C.m.used _ _ hb'), fun b hbb => ?_⟩
    obtain ⟨p1, p2, p3⟩ := C.m.off _ _ _ hb' hbb
    exact ⟨p2, p1, .inr ⟨i, bd', .inr rfl, hb', hbb⟩⟩)
  (fun i j' bi bj b hi hj' hbi hbj h1 h2 => by
   rcases hi with rfl | rfl <;> rcases hj' with rfl | rfl
   ·rfl
   ·simp only [updB, if_true, Option.some.injEq] at hbi; subst hbi; have := Bind.has_nil h1; simp at this
   ·simp only [updB, if_true, Option.some.injEq] at hbj; subst hbj; have := Bind.has_nil h2; simp at this
   ·rfl)
  (fun E i hi _ => by
   rcases hi with rfl | rfl
   ·refine ⟨⟨.slice none 0 0, none, 0, sz, []⟩, by simp [updB], ?_⟩
    simp only [lookC, if_true, ChOk]
    simp
   ·refine ⟨bd0, by simpa [updB, Ne.symm hidn] using hb1, ?_⟩
    have hb2' := ChOk.mono E (fun g _ => rfl) hb2
    rw [hc] at hb2'
    simp only [lookC, if_true, Ne.symm hidn, if_false]
    obtain ⟨q1, q2, g, vs, q3, q4, q5, q6, q7⟩ := hb2'
    refine ⟨by rw [List.length_set]; exact q1, q2, g, vs, q3, q4, q5, RelL.setAt j q6 (fun u hu => ?_), q7⟩
    obtain ⟨u', hu', hr⟩ := q6.at j _ hj
    rw [hu] at hu'; cases hu'
    rw [relC] at hr
    simp only [RelA]
    rw [hr.1]
    refine ⟨Nat.lt_succ_self _, rfl, fun bd hb => ?_⟩
    simp only [updB, if_true, Option.some.injEq] at hb
    subst hb; rfl)
 refine ⟨F, updB β s.n (some ⟨.slice none 0 0, none, 0, sz, []⟩), fun t' => RelA.mono E _ _ (C.t t'), M, C.nt, C.d, C.f, C.g, fun i bd' hi hb => ?_, Nat.le_succ_of_le C.k⟩
 refine C.e i bd' hi ?_
 have : s.n ≠ i := by have := C.k; omega
 simpa [updB, this] using hb
theorem To.cutC {k : Nat} {s : St} (bid j id l e sz tt : Nat) (cs : List AV) (xs : List (List PV)) (hc : lookC s.h bid = .blk tt cs) (hj : cs[j]? = some (.view id 0 l)) (hr : lookC s.h id = .row e sz xs) (hl : l ≤ xs.length) :
 ToK k s ⟨s.t, (s.n, .row e sz (xs.take l)) :: (id, .dead) :: (bid, .blk tt (cs.set j (.own s.n))) :: s.h, s.n + 1⟩ := by
 intro H F β a w hk C
 obtain ⟨bd0, hb1, hb2⟩ := C.m.ch bid (by rw [hc]; simp)
 obtain ⟨bd1, hr1, hr2⟩ := C.m.ch id (by rw [hr]; simp)
 have hbn : bid ≠ s.n := fun h => absurd (C.m.used _ _ hb1) (by rw [h]; exact Nat.lt_irrefl _)
 have hin : id ≠ s.n := fun h => absurd (C.m.used _ _ hr1) (by rw [h]; exact Nat.lt_irrefl _)
 have hbi : bid ≠ id := fun h => by rw [h, hr] at hc; simp at hc
 have hb2' := hb2
 rw [hc] at hb2'
 obtain ⟨q1, q2, g0, vs, q3, q4, q5, q6, q7⟩ := hb2'
 obtain ⟨u, hu, hv⟩ := q6.at j _ hj
 simp only [RelA] at hv
 obtain ⟨_, hone, hv⟩ := hv
 obtain ⟨va, vc, rfl, hvl, hvc, hvm, hvg, hvn⟩ := hv bd1 hr1
 obtain ⟨vn, hvn⟩ := hvn trivial
 have hr3 := hr2
 rw [hr] at hr3
 obtain ⟨p1, p2, p3, p4⟩ := hr3
 have nb : ∃ b, (⟨.slice va l vc, b, l, sz, []⟩ : Bind).b = bd1.b ∧ ((b = none ∧ l = 0 ∧ (Value.slice va l vc) = .slice none 0 0) ∨ ∃ g cur, b = some g ∧ va = some ⟨g, 0, none⟩ ∧ w.heap[g]? = some (.cells cur e (0, 0)) ∧ l ≤ vc ∧ vc ≤ maxLen ∧ cur.size = vc * sz ∧ RelE w F g sz 0 (xs.take l)) := by
  refine ⟨bd1.b, rfl, ?_⟩
  rcases p4 with ⟨h1, h2, h3⟩ | ⟨g, cap, cur, h1, h2, h3, h4, h5, h6, h7⟩
  ·rw [h3] at hvn
   simp only [Value.slice.injEq] at hvn
   obtain ⟨rfl, _, rfl⟩ := hvn
   have : l = 0 := by subst h2; simpa using hl
   subst this
   exact .inl ⟨h1, rfl, rfl⟩
  ·rw [h2] at hvn
   simp only [Value.slice.injEq] at hvn
   obtain ⟨rfl, _, rfl⟩ := hvn
   refine .inr ⟨g, cur, h1, rfl, h3, hvc, hvm, h6, ?_⟩
   refine RelE.of fun i cs' hi => ?_
   rw [List.getElem?_take] at hi
   split at hi
   ·exact RelE.at h7 i cs' hi
   ·simp at hi
 obtain ⟨nbb, hnb, hnc⟩ := nb
 obtain ⟨M, E⟩ := C.m.step (w' := w) (h' := lookC ((s.n, .row e sz (xs.take l)) :: (id, .dead) :: (bid, .blk tt (cs.set j (.own s.n))) :: s.h)) (β' := updB (updB β id none) s.n (some ⟨.slice va l vc, nbb, l, sz, []⟩)) (F' := F) (U' := (· < s.n + 1)) (fun i => i = s.n ∨ i = id ∨ i = bid)
  (fun i hi => by simp only [not_or] at hi; simp [updB, Ne.symm hi.1, Ne.symm hi.2.1]) (fun i hi => by simp only [not_or] at hi; simp [lookC, Ne.symm hi.1, Ne.symm hi.2.1, Ne.symm hi.2.2]) rfl rfl rfl (Nat.le_refl _) (fun _ _ _ => rfl) (fun i hi => Nat.lt_succ_of_lt hi) (fun b hb => hb)
  (fun b hb => ⟨C.m.fin b hb, .inl hb⟩)
  (fun i bd' hi hu hb => by
   rcases hi with rfl | rfl | rfl
   ·exact absurd hu (Nat.lt_irrefl _)
   ·simp [updB, Ne.symm hin] at hb
   ·exact ⟨_, by simpa [updB, Ne.symm hbn, Ne.symm hbi] using hb⟩)
  (fun i bd' hi hb => by
   rcases hi with rfl | rfl | rfl
   ·simp only [updB, if_true, Option.some.injEq] at hb
    subst hb
    refine ⟨Nat.lt_succ_self _, fun b hbb => ?_⟩
    have hbb' : bd1.b = some b := by rw [← hnb]; exact Bind.has_nil hbb
    obtain ⟨r1, r2, r3⟩ := C.m.off _ _ _ hr1 (.inl hbb')
    exact ⟨r2, r1, .inr ⟨id, bd1, .inr (.inl rfl), hr1, .inl hbb'⟩⟩
   ·simp [updB, Ne.symm hin] at hb
   ·have hb' : β i = some bd' := by simpa [updB, Ne.symm hbn, Ne.symm hbi] using hb
    refine ⟨Nat.lt_succ_of_lt (C.m.used _ _ hb'), fun b hbb => ?_⟩
    obtain ⟨p1, p2, p3⟩ := C.m.off _ _ _ hb' hbb
    exact ⟨p2, p1, .inr ⟨i, bd', .inr (.inr rfl), hb', hbb⟩⟩)
  (fun i j' bi bj b hi hj' hbi2 hbj h1 h2 => by
   have old : ∀ i' bd', i' = bid → (updB (updB β id none) s.n (some ⟨.slice va l vc, nbb, l, sz, []⟩)) i' = some bd' → β bid = some bd' := by
    intro i' bd' h hb; subst h; simpa [updB, Ne.symm hbn, Ne.symm hbi] using hb
   rcases hi with rfl | rfl | rfl <;> rcases hj' with rfl | rfl | rfl
   ·rfl
   ·simp [updB, Ne.symm hin] at hbj
   ·simp only [updB, if_true, Option.some.injEq] at hbi2; subst hbi2
    have := C.m.dis id j' bd1 bj b hr1 (old _ _ rfl hbj) (.inl (by rw [← hnb]; exact Bind.has_nil h1)) h2
    exact absurd this.symm hbi
   ·simp [updB, Ne.symm hin] at hbi2
   ·rfl
   ·simp [updB, Ne.symm hin] at hbi2
   ·simp only [updB, if_true, Option.some.injEq] at hbj; subst hbj
    have := C.m.dis i id bi bd1 b (old _ _ rfl hbi2) hr1 h1 (.inl (by rw [← hnb]; exact Bind.has_nil h2))
    exact absurd this hbi
   ·simp [updB, Ne.symm hin] at hbj
   ·rfl)
  (fun E i hi hd => by
   rcases hi with rfl | rfl | rfl
   ·refine ⟨⟨.slice va l vc, nbb, l, sz, []⟩, by simp [updB], ?_⟩
    simp only [lookC, if_true, ChOk]
    refine ⟨⟨trivial, trivial⟩, by rw [List.length_take]; omega, fun cs' hcs => p3 cs' (List.mem_of_mem_take hcs), ?_⟩
    rcases hnc with ⟨h1, h2, h3⟩ | ⟨g, cur, h1, h2, h3, h4, h5, h6, h7⟩
    ·exact .inl ⟨h1, by rw [h2]; rfl, h3⟩
    ·refine .inr ⟨g, vc, cur, h1, ?_, h3, ?_, h5, h6, h7⟩
     ·rw [h2, List.length_take, Nat.min_eq_left hl]
     ·rw [List.length_take, Nat.min_eq_left hl]; exact h4
   ·simp [lookC, Ne.symm hin] at hd
   ·refine ⟨bd0, by simpa [updB, Ne.symm hbn, Ne.symm hbi] using hb1, ?_⟩
    have hb3 := ChOk.mono E (fun g _ => rfl) hb2
    rw [hc] at hb3
    simp only [lookC, if_true, Ne.symm hbn, Ne.symm hbi, if_false]
    obtain ⟨q1, q2, g, vs', q3', q4, q5', q6', q7⟩ := hb3
    have hg : g = g0 := by rw [q3] at q3'; exact (Option.some.inj q3').symm
    subst hg
    have hvs : vs' = vs := by rw [q5] at q5'; simpa using q5'.symm
    subst hvs
    refine ⟨by rw [List.length_set]; exact q1, q2, g, vs', q3', q4, q5', RelL.setAt j q6' (fun u hu2 => ?_), q7⟩
    rw [hu] at hu2
    obtain rfl := Option.some.inj hu2
    simp only [RelA]
    refine ⟨Nat.lt_succ_self _, rfl, fun bd hb => ?_⟩
    simp only [updB, if_true, Option.some.injEq] at hb
    subst hb; rfl)
 refine ⟨F, _, fun t' => RelA.mono E _ _ (C.t t'), M, C.nt, C.d, C.f, C.g, fun i bd' hi hb => ?_, Nat.le_succ_of_le C.k⟩
 have h1 : s.n ≠ i := by have := C.k; omega
 by_cases h2 : id = i
 ·subst h2; simp [updB, h1] at hb
 ·exact C.e i bd' hi (by simpa [updB, h1, h2] using hb)
theorem gcallN {P : Program} {c : Bool} {f : FuncId} {args : List AV} {φ : Prop} {h : Nat → Chunk} {m : Nat} {K : Eff → Prop} (hc : c = false) (k : K ⟨.undef, [], 0⟩) : GCall P c f args φ h m K := .inr ⟨fun h => absurd (hc.symm.trans h) (by decide), fun _ => k⟩
theorem To.moveC {k : Nat} {s : St} (bid j id e sz tt : Nat) (cs : List AV) (xs : List (List PV)) (hc : lookC s.h bid = .blk tt cs) (hj : cs[j]? = some (.own id)) (hr : lookC s.h id = .row e sz xs) :
 ToK k s ⟨s.t, (s.n, .row e sz xs) :: (id, .dead) :: (bid, .blk tt (cs.set j (.own s.n))) :: s.h, s.n + 1⟩ := by
 intro H F β a w hk C
 obtain ⟨bd0, hb1, hb2⟩ := C.m.ch bid (by rw [hc]; simp)
 obtain ⟨bd1, hr1, hr2⟩ := C.m.ch id (by rw [hr]; simp)
 have hbn : bid ≠ s.n := fun h => absurd (C.m.used _ _ hb1) (by rw [h]; exact Nat.lt_irrefl _)
 have hin : id ≠ s.n := fun h => absurd (C.m.used _ _ hr1) (by rw [h]; exact Nat.lt_irrefl _)
 have hbi : bid ≠ id := fun h => by rw [h, hr] at hc; simp at hc
 have hb2' := hb2
 rw [hc] at hb2'
 obtain ⟨q1, q2, g0, vs, q3, q4, q5, q6, q7⟩ := hb2'
 obtain ⟨u, hu, hv⟩ := q6.at j _ hj
 simp only [RelA] at hv
 obtain ⟨_, hone, hv⟩ := hv
 obtain rfl := hv bd1 hr1
 obtain ⟨M, E⟩ := C.m.step (w' := w) (h' := lookC ((s.n, .row e sz xs) :: (id, .dead) :: (bid, .blk tt (cs.set j (.own s.n))) :: s.h)) (β' := updB (updB β id none) s.n (some bd1)) (F' := F) (U' := (· < s.n + 1)) (fun i => i = s.n ∨ i = id ∨ i = bid)
  (fun i hi => by simp only [not_or] at hi; simp [updB, Ne.symm hi.1, Ne.symm hi.2.1]) (fun i hi => by simp only [not_or] at hi; simp [lookC, Ne.symm hi.1, Ne.symm hi.2.1, Ne.symm hi.2.2]) rfl rfl rfl (Nat.le_refl _) (fun _ _ _ => rfl) (fun i hi => Nat.lt_succ_of_lt hi) (fun b hb => hb)
  (fun b hb => ⟨C.m.fin b hb, .inl hb⟩)
  (fun i bd' hi hu hb => by
   rcases hi with rfl | rfl | rfl
   ·exact absurd hu (Nat.lt_irrefl _)
   ·simp [updB, Ne.symm hin] at hb
   ·exact ⟨_, by simpa [updB, Ne.symm hbn, Ne.symm hbi] using hb⟩)
  (fun i bd' hi hb => by
   rcases hi with rfl | rfl | rfl
   ·simp only [updB, if_true, Option.some.injEq] at hb
    subst hb
    refine ⟨Nat.lt_succ_self _, fun b hbb => ?_⟩
    obtain ⟨r1, r2, r3⟩ := C.m.off _ _ _ hr1 hbb
    exact ⟨r2, r1, .inr ⟨id, bd1, .inr (.inl rfl), hr1, hbb⟩⟩
   ·simp [updB, Ne.symm hin] at hb
   ·have hb' : β i = some bd' := by simpa [updB, Ne.symm hbn, Ne.symm hbi] using hb
    refine ⟨Nat.lt_succ_of_lt (C.m.used _ _ hb'), fun b hbb => ?_⟩
    obtain ⟨p1, p2, p3⟩ := C.m.off _ _ _ hb' hbb
    exact ⟨p2, p1, .inr ⟨i, bd', .inr (.inr rfl), hb', hbb⟩⟩)
  (fun i j' bi bj b hi hj' hbi2 hbj h1 h2 => by
   have old : ∀ i' bd', i' = bid → (updB (updB β id none) s.n (some bd1)) i' = some bd' → β bid = some bd' := by
    intro i' bd' h hb; subst h; simpa [updB, Ne.symm hbn, Ne.symm hbi] using hb
   rcases hi with rfl | rfl | rfl <;> rcases hj' with rfl | rfl | rfl
   ·rfl
   ·simp [updB, Ne.symm hin] at hbj
   ·simp only [updB, if_true, Option.some.injEq] at hbi2; subst hbi2
    have := C.m.dis id j' bd1 bj b hr1 (old _ _ rfl hbj) h1 h2
    exact absurd this.symm hbi
   ·simp [updB, Ne.symm hin] at hbi2
   ·rfl
   ·simp [updB, Ne.symm hin] at hbi2
   ·simp only [updB, if_true, Option.some.injEq] at hbj; subst hbj
    have := C.m.dis i id bi bd1 b (old _ _ rfl hbi2) hr1 h1 h2
    exact absurd this hbi
   ·simp [updB, Ne.symm hin] at hbj
   ·rfl)
  (fun E i hi hd => by
   rcases hi with rfl | rfl | rfl
   ·refine ⟨bd1, by simp [updB], ?_⟩
    have hr3 := ChOk.mono E (fun g _ => rfl) hr2
    rw [hr] at hr3
    simp only [lookC, if_true]
    exact hr3
   ·simp [lookC, Ne.symm hin] at hd
   ·refine ⟨bd0, by simpa [updB, Ne.symm hbn, Ne.symm hbi] using hb1, ?_⟩
    have hb3 := ChOk.mono E (fun g _ => rfl) hb2
    rw [hc] at hb3
    simp only [lookC, if_true, Ne.symm hbn, Ne.symm hbi, if_false]
    obtain ⟨q1, q2, g, vs', q3', q4, q5', q6', q7⟩ := hb3
    have hg : g = g0 := by rw [q3] at q3'; exact (Option.some.inj q3').symm
    subst hg
    have hvs : vs' = vs := by rw [q5] at q5'; simpa using q5'.symm
    subst hvs
    refine ⟨by rw [List.length_set]; exact q1, q2, g, vs', q3', q4, q5', RelL.setAt j q6' (fun u hu2 => ?_), q7⟩
    rw [hu] at hu2
    obtain rfl := Option.some.inj hu2
    simp only [RelA]
    refine ⟨Nat.lt_succ_self _, hone, fun bd hb => ?_⟩
    simp only [updB, if_true, Option.some.injEq] at hb
    subst hb; rfl)
 refine ⟨F, _, fun t' => RelA.mono E _ _ (C.t t'), M, C.nt, C.d, C.f, C.g, fun i bd' hi hb => ?_, Nat.le_succ_of_le C.k⟩
 have h1 : s.n ≠ i := by have := C.k; omega
 by_cases h2 : id = i
 ·subst h2; simp [updB, h1] at hb
 ·exact C.e i bd' hi (by simpa [updB, h1, h2] using hb)
def endG (ops : Array Oper) (n : Nat) (K : St → Prop) (acc : List (List Nat × List Nat)) (s' : St) : Prop := drawOk ops acc = true ∧ K ⟨s'.t, s'.h, n + 4 * ops.size⟩
theorem drawG_w {P : Program} {nt : Nat} {ops : Array Oper} {K : St → Prop} {t : List (Nat × AV)} {h : List (Nat × Chunk)} {n : Nat} (ds : List (Option Tmp)) (hds : ops.toList.map (fun o : Oper => o.dst) = ds)
 (G : ∀ (O : Array Oper) (l : List Oper) (R : List (List Nat × List Nat) → St → Prop), l = ops.toList → (∀ j : Nat, (O[j]?).bind (fun o : Oper => o.dst) = (ds[j]?).bind id) → R = endG ops n K → drawL P nt O n 0 l [] R ⟨t, h, n⟩) : DrawG P nt ops K ⟨t, h, n⟩ := by
 refine G ops ops.toList _ rfl (fun j => ?_) rfl
 rw [← hds, List.getElem?_map, Array.getElem?_toList]
 cases ops[j]? <;> rfl
theorem peelD {P : Program} {nt : Nat} {O : Array Oper} {n i : Nat} {o : Oper} {r0 : List Oper} {acc : List (List Nat × List Nat)} {R : List (List Nat × List Nat) → St → Prop} {s : St}
 (G : ∀ r, r = r0 → drawL P nt O n i (o :: r) acc R s) : drawL P nt O n i (o :: r0) acc R s := G r0 rfl
theorem endD {P : Program} {nt : Nat} {O : Array Oper} {n i : Nat} {acc : List (List Nat × List Nat)} {R : List (List Nat × List Nat) → St → Prop} {t : List (Nat × AV)} {h : List (Nat × Chunk)} {m : Nat} (G : R acc ⟨t, h, m⟩) : drawL P nt O n i [] acc R ⟨t, h, m⟩ := G
theorem endE {ops : Array Oper} {n : Nat} {K : St → Prop} {acc : List (List Nat × List Nat)} {t : List (Nat × AV)} {h : List (Nat × Chunk)} {m : Nat} (G1 : drawOk ops acc = true) (G2 : K ⟨t, h, n + 4 * ops.size⟩) : endG ops n K acc ⟨t, h, m⟩ := ⟨G1, G2⟩
theorem Spec.hand {P : Program} {f : FuncId} {args args' : List AV} {hs hs1 hs1' : List Chunk} {r : AV} (k : Nat) (S : Spec P f args' hs1 r hs1') (hk : k ≤ hs.length) (hk1 : hs1'.length = k) (hw : WkL (cvL (List.range k) (nth hs) args) args') (hh : hs1 = (List.range k).map fun id => cvC (List.range k) (nth hs) (nth hs id)) :
 Spec P f args hs r (hs1' ++ List.replicate (hs.length - k) .dead) := by
 obtain ⟨S0, _, S⟩ := S
 refine ⟨S0, by simp; omega, fun w F β vs M hv => ?_⟩
 have hl1 : hs1.length = k := by rw [hh]; simp
 have M1 := (cv_mem M (hT := nth hs) (fun _ _ => rfl) (List.range k) List.nodup_range).here
 have hv1 := hw.run (cvL_run M (hT := nth hs) (fun _ _ => rfl) (List.range k) args vs hv)
 rw [← hh] at M1
 rw [List.length_range] at M1 hv1
 rw [hl1] at S
 have sel : ∀ {i : Nat} {bd : Bind}, selB (List.range k) β i = some bd → i < k ∧ β i = some bd := by
  intro i bd h
  obtain ⟨id, h1, h2⟩ := selB_some h
  have hik : i < k := by have := (List.getElem?_eq_some_iff.1 h1).1; simpa using this
  rw [List.getElem?_range hik] at h1
  obtain rfl := Option.some.inj h1
  exact ⟨hik, h2⟩
 have hin : ∀ b, inB (selB (List.range k) β) b → inB β b := by
  rintro b ⟨i, bd, h1, h2⟩
  exact ⟨i, bd, (sel h1).2, h2⟩
 refine (S w _ _ vs M1 hv1).mono ?_
 rintro e w' ⟨v, F', β', rfl, M2, hr, hF, hF', hβ⟩
 rw [hk1] at M2 hr
 have E : Ext (· < k) F' β' w' (· < (hs1' ++ List.replicate (hs.length - k) Chunk.dead).length) F' (fun i => if i < k then β' i else none) w' :=
  ⟨fun i hi => by simp only [List.length_append, List.length_replicate]; omega, fun b hb => ⟨hb, rfl⟩, fun i bd hi hb => ⟨_, by simpa [hi] using hb⟩⟩
 have low : ∀ {i : Nat} {bd : Bind}, (if i < k then β' i else none) = some bd → i < k ∧ β' i = some bd := by
  intro i bd h
  by_cases hi : i < k
  ·rw [if_pos hi] at h; exact ⟨hi, h⟩
  ·rw [if_neg hi] at h; simp at h
 refine ⟨v, F', fun i => if i < k then β' i else none, rfl, ⟨M2.size, M2.os, M2.tape, M2.output, fun b hb hn => M2.frame b hb (fun h => hn (hin b h)), M2.fin, fun i bd hb => ?_, fun i hd => ?_, fun i j bi bj b hi hj h1 h2 => M2.dis i j bi bj b (low hi).2 (low hj).2 h1 h2, fun i bd b hb hbb => ?_⟩, RelA.mono E _ _ hr, fun b hb => hF b (.inl hb), fun b hb => ?_, fun i bd hi hb => ?_⟩
 ·exact E.u i (low hb).1
 ·have hik : i < k := by
   rcases Nat.lt_or_ge i k with h | h
   ·exact h
   ·exfalso
    apply hd
    unfold nth
    rw [List.getD_eq_getElem?_getD, List.getElem?_append_right (by omega), List.getElem?_replicate]
    split <;> rfl
  have e0 : nth (hs1' ++ List.replicate (hs.length - k) Chunk.dead) i = nth hs1' i := by
   unfold nth
   rw [List.getD_eq_getElem?_getD, List.getElem?_append_left (by omega), List.getD_eq_getElem?_getD]
  rw [e0] at hd ⊢
  obtain ⟨bd, h1, h2⟩ := M2.ch i hd
  exact ⟨bd, by rw [if_pos hik]; exact h1, ChOk.mono E (fun _ _ => rfl) h2⟩
 ·obtain ⟨k1, k2, k3⟩ := M2.off i bd b (low hb).2 hbb
  exact ⟨k1, k2, k3.imp id (hin b)⟩
 ·rcases hF' b hb with h1 | h1 | h1
  ·rcases h1 with h1 | ⟨id, bd, _, _, h2, h3⟩
   ·exact .inl h1
   ·exact .inr (.inr ⟨id, bd, h2, .inl h3⟩)
  ·exact .inr (.inl h1)
  ·exact .inr (.inr (hin b h1))
 ·obtain ⟨h1, h2⟩ := low hb
  obtain ⟨bs, h3⟩ := hβ i bd h1 h2
  exact ⟨bs, (sel h3).2⟩
theorem look_fz (Z : List Nat) (h : Nat → Chunk) : ∀ (l : List (Nat × AV)) (t : Nat), look (l.map fun p => (p.1, fz Z h p.2)) t = fz Z h (look l t)
 | [], t => by simp only [List.map_nil, look, fz]
 | (k, x) :: r, t => by
  simp only [List.map_cons, look]
  by_cases e : k = t
  ·rw [if_pos e, if_pos e]
  ·rw [if_neg e, if_neg e]; exact look_fz Z h r t
theorem To.frz {k : Nat} {s : St} (Z : List Nat) : ToK k s ⟨s.t.map fun p => (p.1, fz Z (lookC s.h) p.2), deadsOf Z ++ s.h, s.n⟩ := by
 intro H F β a w hk C
 have M := fz_mem C.m Z
 have e : lookC (deadsOf Z ++ s.h) = fzH Z (lookC s.h) := by
  rw [← upd_look, upd_deads]
 refine ⟨fzF Z F β, fzB Z β, fun t => ?_, by rw [e]; exact M, C.nt, C.d.more fun _ hb => .inl hb, fun b hb => .inl (C.f b hb), fun b hb => ?_, fun i bd hi hb => C.e i bd hi (fzB_some hb).2, C.k⟩
 ·simp only [look_fz]
  exact fz_run C.m (fun _ _ => rfl) Z _ _ (C.t t)
 ·rcases hb with h1 | ⟨id, bd, _, h2, h3⟩
  ·exact C.g b h1
  ·exact .inr (C.m.off id bd b h2 (.inl h3)).2.2
def xsh (X s : Nat) : Nat := X ^^^ X / s
def mxA (n : Nat) : Nat := (n + 11400714819323198485) % 18446744073709551616
def mxB (n : Nat) : Nat := xsh (mxA n) 1073741824 * 13787848793156543929 % 18446744073709551616
def mxC (n : Nat) : Nat := xsh (mxB n) 134217728 * 10723151780598845931 % 18446744073709551616
def mx (n : Nat) : Nat := xsh (mxC n) 2147483648
theorem xsh_lt (X s : Nat) (h : X < 18446744073709551616) : xsh X s < 18446744073709551616 := by
 have hd : X / s ≤ X := Nat.div_le_self _ _
 exact Nat.xor_lt_two_pow (n := 64) h (by omega)
theorem mxA_lt (n : Nat) : mxA n < 18446744073709551616 := Nat.mod_lt _ (by decide)
theorem mxB_lt (n : Nat) : mxB n < 18446744073709551616 := Nat.mod_lt _ (by decide)
theorem mxC_lt (n : Nat) : mxC n < 18446744073709551616 := Nat.mod_lt _ (by decide)
theorem mx_lt (n : Nat) : mx n < 18446744073709551616 := xsh_lt _ _ (mxC_lt n)
theorem mxA_eq (n : Nat) : IntKind.u64.wrap ((n : Int) + 11400714819323198485) = (mxA n : Int) := by
 rw [IntKind.wrap_u64]; unfold mxA; rw [Int.natCast_emod, Int.natCast_add]; rfl
theorem xor_eq (X s : Nat) (h : X < 18446744073709551616) : bits .xor .u64 (X : Int) ((X : Int) / (s : Int)) = (xsh X s : Int) := xorShift_u64 X s h
theorem mxB_eq (n : Nat) : IntKind.u64.wrap (bits .xor .u64 (mxA n : Int) ((mxA n : Int) / 1073741824) * 13787848793156543929) = (mxB n : Int) := mixStep_u64 _ 1073741824 13787848793156543929 (mxA_lt n)
theorem mxC_eq (n : Nat) : IntKind.u64.wrap (bits .xor .u64 (mxB n : Int) ((mxB n : Int) / 134217728) * 10723151780598845931) = (mxC n : Int) := mixStep_u64 _ 134217728 10723151780598845931 (mxB_lt n)
theorem t64_step (a b P Q : Nat) (p : Int) (hp : p = (P : Int)) (hQ : Q = P * 65536) :
 IntKind.u64.wrap ((b : Int) * ((a : Int) % p) % 18446744073709551616 + IntKind.u64.wrap (IntKind.u64.wrap ((b : Int) * ((a : Int) / p % 65536)) * p)) = ((b * (a % Q) % 18446744073709551616 : Nat) : Int) := by
 subst hp hQ
 simp only [IntKind.wrap_u64]
 have e : ((b : Int) * ((a : Int) % (P : Int)) % 18446744073709551616 + ((b : Int) * ((a : Int) / (P : Int) % 65536)) % 18446744073709551616 * (P : Int) % 18446744073709551616) % 18446744073709551616 = (((b * (a % P) % 18446744073709551616 + (b * (a / P % 65536)) % 18446744073709551616 * P % 18446744073709551616) % 18446744073709551616 : Nat) : Int) := by simp only [Int.natCast_emod, Int.natCast_add, Int.natCast_mul, Int.natCast_ediv]; rfl
 rw [e]
 congr 1
 simp only [Nat.add_mod_mod, Nat.mod_add_mod, Nat.mod_mul_mod]
 congr 1
 rw [Nat.mod_mul, Nat.mul_add, Nat.mul_assoc, Nat.mul_comm P]
theorem t64_first (a b : Nat) : IntKind.u64.wrap (IntKind.u64.wrap (IntKind.u64.wrap ((b : Int) * ((a : Int) % 65536)))) = ((b * (a % 65536) % 18446744073709551616 : Nat) : Int) := by
 simp only [IntKind.wrap_u64, Int.emod_emod]
 simp only [Int.natCast_emod, Int.natCast_mul]; rfl
set_option maxHeartbeats 800000 in
theorem mix_any (n : Nat) (w : World) :
 Calls Tryz.prog 64 #[.int .u64 n] w fun e w' => e = .returned (.int .u64 (mx n)) ∧ w = w' := by
 go_enter Tryz.func64, Tryz.ntmps64
 go_wp2
 go_ret
 refine ⟨ret_u64 ?_, rfl⟩
 rw [mxA_eq, mxB_eq, mxC_eq]
 exact xor_eq (mxC n) 2147483648 (mxC_lt n)
set_option maxHeartbeats 800000 in
theorem times_any (a b : Nat) (ha : a < 18446744073709551616) (w : World) :
 Calls Tryz.prog 55 #[.int .u64 a, .int .u64 b] w fun e w' => e = .returned (.int .u64 (b * a % 18446744073709551616 : Nat)) ∧ w = w' := by
 go_enter Tryz.func55, Tryz.ntmps55
 go_wp2_with fail
 go_loop [5, 8] (fun o i => ∃ k : Nat, k ≤ 4 ∧ i = .int .i64 k ∧ o = .int .u64 (b * (a % 2 ^ (16 * k)) % 18446744073709551616 : Nat)) (fun _ i => 4 - (intOf i).toNat)
 case atStart => exact ⟨0, by omega, rfl, by simp [Nat.mod_one]⟩
 case round =>
  obtain ⟨k, hk, rfl, rfl⟩ := hrel
  by_cases h4 : k = 4
  ·subst h4
   go_wp2_with fail
   go_ret
   refine ⟨ret_u64 ?_, rfl⟩
   rfl
  ·have hk4 : k = 0 ∨ k = 1 ∨ k = 2 ∨ k = 3 := by omega
   clear hk h4
   rcases hk4 with rfl | rfl | rfl | rfl
   all_goals
    go_wp2_with fail
    go_round
    case measure => simp [intOf]
   case rel => exact ⟨1, by omega, rfl, congrArg (Value.int .u64) (t64_first a b)⟩
   case rel => exact ⟨2, by omega, rfl, congrArg (Value.int .u64) (t64_step a b 65536 _ _ rfl (by decide))⟩
   case rel => exact ⟨3, by omega, rfl, congrArg (Value.int .u64) (t64_step a b 4294967296 _ _ rfl (by decide))⟩
   case rel => exact ⟨4, by omega, rfl, congrArg (Value.int .u64) (t64_step a b 281474976710656 _ _ rfl (by decide))⟩
theorem xorq_eq (X S : Nat) (s : Int) (hs : s = (S : Int)) (h : X < 18446744073709551616) : bits .xor .u64 (X : Int) (IntKind.u64.wrap ((X : Int).tdiv s)) = (xsh X S : Int) := by
 subst hs
 have e : IntKind.u64.wrap ((X : Int).tdiv (S : Int)) = (X : Int) / (S : Int) := by
  rw [Int.tdiv_eq_ediv_of_nonneg (by omega), ← Int.natCast_ediv, IntKind.wrap_u64]
  have hd : X / S ≤ X := Nat.div_le_self _ _
  generalize X / S = q at hd
  omega
 rw [e]; exact xor_eq X S h
theorem xorw_eq (X S : Nat) (s : Int) (hs : s = (S : Int)) (h : X < 18446744073709551616) : bits .xor .u64 (X : Int) (IntKind.u64.wrap ((X : Int) / s)) = (xsh X S : Int) := by
 rw [← xorq_eq X S s hs h, Int.tdiv_eq_ediv_of_nonneg (by omega)]
set_option maxHeartbeats 800000 in
theorem mixed_any (n : Nat) (w : World) :
 Calls Tryz.prog 31 #[.int .u64 n] w fun e w' => e = .returned (.int .u64 (mx n)) ∧ w = w' := by
 go_enter Tryz.func31, Tryz.ntmps31
 go_wp2_with fail
 rw [mxA_eq, xorq_eq (mxA n) 1073741824 1073741824 rfl (mxA_lt n)]
 refine (times_any _ 13787848793156543929 (xsh_lt _ _ (mxA_lt n)) _).mono ?_
 rintro e w' ⟨rfl, rfl⟩
 rw [show (13787848793156543929 * xsh (mxA n) 1073741824 % 18446744073709551616) = mxB n from by rw [Nat.mul_comm]; rfl]
 go_wp2_with fail
 rw [xorw_eq (mxB n) 134217728 134217728 rfl (mxB_lt n)]
 refine (times_any _ 10723151780598845931 (xsh_lt _ _ (mxB_lt n)) _).mono ?_
 rintro e w' ⟨rfl, rfl⟩
 rw [show (10723151780598845931 * xsh (mxB n) 134217728 % 18446744073709551616) = mxC n from by rw [Nat.mul_comm]; rfl]
 go_wp2_with fail
 go_ret
 exact ⟨ret_u64 (xorw_eq (mxC n) 2147483648 2147483648 rfl (mxC_lt n)), rfl⟩
theorem xorN (a b : Nat) (ha : a < 18446744073709551616) (hb : b < 18446744073709551616) : bits .xor .u64 (a : Int) (b : Int) = ((a ^^^ b : Nat) : Int) := bits_xor_u64_nat a b ha hb
theorem xorN_lt (a b : Nat) (ha : a < 18446744073709551616) (hb : b < 18446744073709551616) : a ^^^ b < 18446744073709551616 := Nat.xor_lt_two_pow (n := 64) ha hb
set_option maxHeartbeats 800000 in
theorem turn_any (m n : Nat) (hm : m < 18446744073709551616) (w : World) :
 Calls Tryz.prog 128 #[.int .u64 m, .int .u64 n] w fun e w' => e = .returned (.int .u64 (m ^^^ mx n : Nat)) ∧ w = w' := by
 have h := xorN m (mx n) hm (mx_lt n)
 have H := Lib.hid h; clear h hm
 go_enter Tryz.func128, Tryz.ntmps128
 go_wp2_with (go_at_call 64; refine (mix_any _ _).mono ?_; rintro e w' ⟨rfl, rfl⟩)
 go_ret
 exact ⟨ret_u64 H.out, rfl⟩
def mb (m : Nat) (b : UInt8) : Nat := mx (m ^^^ b.toNat)
theorem mb_lt (m : Nat) (b : UInt8) : mb m b < 18446744073709551616 := mx_lt _
def lf (m : Nat) : List UInt8 → Nat
 | [] => m
 | b :: l => lf (mb m b) l
theorem lf_snoc (m : Nat) (l : List UInt8) (b : UInt8) : lf m (l ++ [b]) = mb (lf m l) b := by
 induction l generalizing m with
 | nil => simp only [List.nil_append, lf]
 | cons c l ih => simp only [List.cons_append, lf, ih]
theorem lf_lt (l : List UInt8) : ∀ m, m < 18446744073709551616 → lf m l < 18446744073709551616 := by
 induction l with
 | nil => intro m h; rw [lf]; exact h
 | cons b l ih => intro m _; rw [lf]; exact ih _ (mb_lt _ _)
def mz (n : Nat) : Nat := mx n
theorem mz_lt (n : Nat) : mz n < 18446744073709551616 := mx_lt _
def leafN (s : ByteArray) : Nat := lf (mz s.size) s.data.toList
theorem leafN_lt (s : ByteArray) : leafN s < 18446744073709551616 := lf_lt _ _ (mz_lt _)
theorem mix_z (n : Nat) (w : World) : Calls Tryz.prog 64 #[.int .u64 n] w fun e w' => e = .returned (.int .u64 (mz n : Nat)) ∧ w = w' := mix_any n w
theorem mix_b (m : Nat) (b : UInt8) (w : World) : Calls Tryz.prog 64 #[.int .u64 (m ^^^ b.toNat : Nat)] w fun e w' => e = .returned (.int .u64 (mb m b : Nat)) ∧ w = w' := mix_any _ w
theorem mixed_z (n : Nat) (w : World) : Calls Tryz.prog 31 #[.int .u64 n] w fun e w' => e = .returned (.int .u64 (mz n : Nat)) ∧ w = w' := mixed_any n w
theorem mixed_b (m : Nat) (b : UInt8) (w : World) : Calls Tryz.prog 31 #[.int .u64 (m ^^^ b.toNat : Nat)] w fun e w' => e = .returned (.int .u64 (mb m b : Nat)) ∧ w = w' := mixed_any _ w
def rot32 (b : Nat) : Nat := b / 4294967296 + b % 4294967296 * 4294967296
theorem rot32_lt (b : Nat) (h : b < 18446744073709551616) : rot32 b < 18446744073709551616 := by unfold rot32; omega
def pa1 (a b : Nat) : Nat := mx (a ^^^ rot32 b ^^^ 1)
theorem pa1_lt (a b : Nat) : pa1 a b < 18446744073709551616 := mx_lt _
def pairN (a b : Nat) : Nat := mx (pa1 a b ^^^ b)
theorem pairN_lt (a b : Nat) : pairN a b < 18446744073709551616 := mx_lt _
set_option maxRecDepth 20000 in
set_option maxHeartbeats 1000000 in
theorem leaf_any (s : ByteArray) (w : World) (hs : s.size ≤ 140737488351232) :
 Calls Tryz.prog 35 #[.string s] w fun e w' => e = .returned (.int .u64 (leafN s : Nat)) ∧ w = w' := by
 have hu : IntKind.u64.wrap (s.size : Int) = s.size := by rw [IntKind.wrap_u64]; omega
 go_enter Tryz.func35, Tryz.ntmps35
 go_wp2_with fail
 refine (mix_z _ _).mono ?_
 rintro e w' ⟨rfl, rfl⟩
 clear hu
 go_wp2_with fail
 go_loop [3, 11] (fun mv iv => ∃ k : Nat, k ≤ s.size ∧ iv = .int .i64 k ∧ mv = .int .u64 (lf (mz s.size) (s.data.toList.take k) : Nat)) (fun _ iv => s.size - (intOf iv).toNat)
 case atStart => exact ⟨0, by omega, rfl, by rw [List.take_zero, lf]⟩
 case round =>
  obtain ⟨k, hk, rfl, rfl⟩ := hrel
  have hl := lf_lt (s.data.toList.take k) _ (mz_lt s.size)
  by_cases h8 : k < s.size
  ·have hs1 : lf (mz s.size) (s.data.toList.take (k + 1)) = mb (lf (mz s.size) (s.data.toList.take k)) s[k] := by rw [bytes_snoc s k h8, lf_snoc]
   generalize lf (mz s.size) (s.data.toList.take k) = y at *
   have HS := PLift.up hs1; clear hs1
   have hx := UInt8.toNat_lt s[k]
   have hc : IntKind.u64.wrap (s[k].toNat : Int) = (s[k].toNat : Int) := by rw [IntKind.wrap_u64]; omega
   have hxo := xorN y s[k].toNat hl (by omega)
   go_wp2_with fail
   refine (mix_b _ _ _).mono ?_
   rintro e w' ⟨rfl, rfl⟩
   rw [← HS.down]
   clear hxo hc
   go_wp2_with fail
   go_round
   case rel => exact ⟨k + 1, by omega, by go_num, rfl⟩
   case measure => simp [intOf]; omega
  ·obtain rfl : k = s.size := by omega
   have hf : lf (mz s.size) (s.data.toList.take s.size) = leafN s := by rw [take_all, leafN]
   rw [hf]
   clear hf hl
   go_wp2_with fail
   go_returns
   exact ⟨rfl, rfl⟩
set_option maxRecDepth 20000 in
set_option maxHeartbeats 1000000 in
theorem leafOf_any (s : ByteArray) (w : World) (hs : s.size ≤ 140737488351232) :
 Calls Tryz.prog 18 #[.string s] w fun e w' => e = .returned (.int .u64 (leafN s : Nat)) ∧ Below w.heap.size w w' := by
 have hu : IntKind.u64.wrap (s.size : Int) = s.size := by rw [IntKind.wrap_u64]; omega
 have hcv := fun w => Lib.run_convert_string_bytes (P := Tryz.prog) w 9 74 5 s Tryz.underlying9 Tryz.underlying74 Tryz.underlying5
 go_enter Tryz.func18, Tryz.ntmps18
 go_wp2_with fail
 refine (mixed_z _ _).mono ?_
 rintro e w' ⟨rfl, rfl⟩
 clear hu
 go_wp2_with fail
 have hcell := fun j hj => Lib.bytesWorld_cell w 5 s j hj
 have hbw : Below w.heap.size w (Lib.bytesWorld w 5 s) := ⟨rfl, rfl, rfl, by rw [Lib.bytesWorld_size]; omega, fun k hk => Lib.bytesWorld_at_old w _ s k hk⟩
 obtain ⟨W, hW⟩ : ∃ W, W = Lib.bytesWorld w 5 s := ⟨_, rfl⟩
 rw [← hW] at hcell hbw ⊢
 generalize grownCap w s.size 0 5 = cp
 have HC := PLift.up hcell
 have HB := PLift.up hbw
 clear hcell hbw hW hcv
 go_loop [3, 13] (fun mv iv => ∃ k : Nat, k ≤ s.size ∧ iv = .int .i64 k ∧ mv = .int .u64 (lf (mz s.size) (s.data.toList.take k) : Nat)) (fun _ iv => s.size - (intOf iv).toNat)
 case atStart => exact ⟨0, by omega, rfl, by rw [List.take_zero, lf]⟩
 case round =>
  obtain ⟨k, hk, rfl, rfl⟩ := hrel
  have hl := lf_lt (s.data.toList.take k) _ (mz_lt s.size)
  by_cases h8 : k < s.size
  ·have hs1 : lf (mz s.size) (s.data.toList.take (k + 1)) = mb (lf (mz s.size) (s.data.toList.take k)) s[k] := by rw [bytes_snoc s k h8, lf_snoc]
   generalize lf (mz s.size) (s.data.toList.take k) = y at *
   have HS := PLift.up hs1; clear hs1
   have hc := HC.down k h8
   have he : (s.data.toList.getD k 0) = s[k] := by
    rw [List.getD_eq_getElem?_getD, List.getElem?_eq_getElem (by simpa using h8)]; rfl
   rw [he] at hc
   have hx := UInt8.toNat_lt s[k]
   have hcu : IntKind.u64.wrap (s[k].toNat : Int) = (s[k].toNat : Int) := by rw [IntKind.wrap_u64]; omega
   have hxo := xorN y s[k].toNat hl (by omega)
   clear he
   go_wp2_with fail
   refine (mixed_b _ _ _).mono ?_
   rintro e w' ⟨rfl, rfl⟩
   rw [← HS.down]
   clear hxo hcu hc
   go_wp2_with fail
   go_round
   case rel => exact ⟨k + 1, by omega, by go_num, rfl⟩
   case measure => simp [intOf]; omega
  ·obtain rfl : k = s.size := by omega
   have hf : lf (mz s.size) (s.data.toList.take s.size) = leafN s := by rw [take_all, leafN]
   rw [hf]
   clear hf hl
   go_wp2_with fail
   go_returns
   exact ⟨rfl, HB.down⟩
set_option maxRecDepth 20000 in
set_option maxHeartbeats 1000000 in
theorem rot_any (b : Nat) (hb : b < 18446744073709551616) (w : World) :
 Calls Tryz.prog 66 #[.int .u64 b, .int .i64 32] w fun e w' => e = .returned (.int .u64 (rot32 b : Nat)) ∧ w = w' := by
 have hand : bits .and .u64 32 63 = 32 := by decide +kernel
 go_enter Tryz.func66, Tryz.ntmps66
 go_wp2_with fail
 go_returns
 refine ⟨ret_u64 ?_, rfl⟩
 show bits .or .u64 (IntKind.u64.wrap ((b : Int) * 4294967296)) ((b : Int) / 4294967296) = _
 have e1 : IntKind.u64.wrap ((b : Int) * 4294967296) = ((b % 4294967296 * 4294967296 : Nat) : Int) := by rw [IntKind.wrap_u64]; omega
 have e2 : (b : Int) / 4294967296 = ((b / 4294967296 : Nat) : Int) := by omega
 rw [e1, e2, u64_or_nat _ _ (by omega) (by omega)]
 congr 1
 have hlt : b / 4294967296 < 2 ^ 32 := by omega
 have hmd : b % 4294967296 * 4294967296 % 2 ^ 32 = 0 := Nat.mul_mod_left _ _
 rw [nat_join 32 _ _ hmd hlt]
 unfold rot32; omega
set_option maxRecDepth 20000 in
set_option maxHeartbeats 1000000 in
theorem pair_any (a b : Nat) (ha : a < 18446744073709551616) (hb : b < 18446744073709551616) (w : World) :
 Calls Tryz.prog 37 #[.int .u64 a, .int .u64 b] w fun e w' => e = .returned (.int .u64 (pairN a b : Nat)) ∧ w = w' := by
 have hr := rot32_lt b hb
 have h1 := xorN a (rot32 b) ha hr
 have h2 : bits .xor .u64 ((a ^^^ rot32 b : Nat) : Int) 1 = ((a ^^^ rot32 b ^^^ 1 : Nat) : Int) := xorN (a ^^^ rot32 b) 1 (xorN_lt _ _ ha hr) (by decide)
 have h3 := xorN (pa1 a b) b (pa1_lt a b) hb
 have M1 : PLift (∀ w, Calls Tryz.prog 64 #[.int .u64 (a ^^^ rot32 b ^^^ 1 : Nat)] w fun e w' => e = .returned (.int .u64 (pa1 a b : Nat)) ∧ w = w') := PLift.up (fun w => mix_any _ w)
 have M2 : PLift (∀ w, Calls Tryz.prog 64 #[.int .u64 (pa1 a b ^^^ b : Nat)] w fun e w' => e = .returned (.int .u64 (pairN a b : Nat)) ∧ w = w') := PLift.up (fun w => mix_any _ w)
 have R := PLift.up (fun w => rot_any b hb w)
 go_enter Tryz.func37, Tryz.ntmps37
 go_wp2_with fail
 (with_reducible refine (R.down _).mono ?_)
 rintro e w' ⟨rfl, rfl⟩
 go_wp2_with fail
 (with_reducible refine (M1.down _).mono ?_)
 rintro e w' ⟨rfl, rfl⟩
 go_wp2_with fail
 (with_reducible refine (M2.down _).mono ?_)
 rintro e w' ⟨rfl, rfl⟩
 go_wp2_with fail
 go_returns
 exact ⟨rfl, rfl⟩
set_option maxRecDepth 20000 in
set_option maxHeartbeats 1000000 in
theorem pairOf_any (a b : Nat) (ha : a < 18446744073709551616) (hb : b < 18446744073709551616) (w : World) :
 Calls Tryz.prog 19 #[.int .u64 a, .int .u64 b] w fun e w' => e = .returned (.int .u64 (pairN a b : Nat)) ∧ w = w' := by
 have hr := rot32_lt b hb
 have h0 : (b : Int) / 4294967296 + (b : Int) % 4294967296 * 4294967296 = ((rot32 b : Nat) : Int) := by unfold rot32; omega
 have h1 := xorN a (rot32 b) ha hr
 have h2 : bits .xor .u64 ((a ^^^ rot32 b : Nat) : Int) 1 = ((a ^^^ rot32 b ^^^ 1 : Nat) : Int) := xorN (a ^^^ rot32 b) 1 (xorN_lt _ _ ha hr) (by decide)
 have h3 := xorN (pa1 a b) b (pa1_lt a b) hb
 have M1 : PLift (∀ w, Calls Tryz.prog 31 #[.int .u64 (a ^^^ rot32 b ^^^ 1 : Nat)] w fun e w' => e = .returned (.int .u64 (pa1 a b : Nat)) ∧ w = w') := PLift.up (fun w => mixed_any _ w)
 have M2 : PLift (∀ w, Calls Tryz.prog 31 #[.int .u64 (pa1 a b ^^^ b : Nat)] w fun e w' => e = .returned (.int .u64 (pairN a b : Nat)) ∧ w = w') := PLift.up (fun w => mixed_any _ w)
 go_enter Tryz.func19, Tryz.ntmps19
 go_wp2_with fail
 (with_reducible refine (M1.down _).mono ?_)
 rintro e w' ⟨rfl, rfl⟩
 go_wp2_with fail
 (with_reducible refine (M2.down _).mono ?_)
 rintro e w' ⟨rfl, rfl⟩
 go_wp2_with fail
 go_returns
 exact ⟨rfl, rfl⟩
end Go.Proofs.YtllmjdcblfkfaaaGreat
namespace Go.Proofs.YtllmjdcblfkfaaaGreat
set_option linter.all false
def lvl (pr : Nat → Nat → Nat) : List Nat → List Nat
 | [] => []
 | [a] => [a]
 | a :: b :: l => pr a b :: lvl pr l
theorem lvl_len (pr : Nat → Nat → Nat) : ∀ l : List Nat, (lvl pr l).length = (l.length + 1) / 2
 | [] => rfl
 | [a] => by simp [lvl]
 | a :: b :: l => by rw [lvl, List.length_cons, lvl_len pr l, List.length_cons, List.length_cons]; omega
theorem lvl_app (pr : Nat → Nat → Nat) : ∀ (k : Nat) (l : List Nat), 2 * k ≤ l.length → lvl pr l = lvl pr (l.take (2 * k)) ++ lvl pr (l.drop (2 * k)) ∧ (lvl pr (l.take (2 * k))).length = k
 | 0, l, _ => by simp [lvl]
 | k + 1, [], h => by simp at h
 | k + 1, [a], h => by simp at h; omega
 | k + 1, a :: b :: l, h => by
  have ih := lvl_app pr k l (by simp at h; omega)
  have e : 2 * (k + 1) = 2 * k + 1 + 1 := by omega
  rw [e, List.take_succ_cons, List.take_succ_cons, List.drop_succ_cons, List.drop_succ_cons, lvl, lvl, ih.1]
  exact ⟨by rw [← ih.1]; simp [ih.1], by rw [List.length_cons, ih.2]⟩
def rtF (pr : Nat → Nat → Nat) : Nat → List Nat → Nat
 | 0, l => l.headD 0
 | f + 1, l => if l.length ≤ 1 then l.headD 0 else rtF pr f (lvl pr l)
def rt (pr : Nat → Nat → Nat) (l : List Nat) : Nat := rtF pr l.length l
theorem rtF_any (pr : Nat → Nat → Nat) : ∀ (f g : Nat) (l : List Nat), l.length ≤ f → l.length ≤ g → rtF pr f l = rtF pr g l
 | 0, g, l, h, _ => by
  have : l = [] := List.eq_nil_of_length_eq_zero (by omega)
  subst this
  cases g <;> simp [rtF]
 | f + 1, 0, l, _, h => by
  have : l = [] := List.eq_nil_of_length_eq_zero (by omega)
  subst this
  simp [rtF]
 | f + 1, g + 1, l, h1, h2 => by
  unfold rtF
  split
  ·rfl
  ·have hl := lvl_len pr l
   exact rtF_any pr f g _ (by omega) (by omega)
theorem rt_lvl (pr : Nat → Nat → Nat) (l : List Nat) : rt pr (lvl pr l) = rt pr l := by
 have hl := lvl_len pr l
 by_cases h : l.length ≤ 1
 ·match l, h with
  | [], _ => rfl
  | [a], _ => rfl
 ·unfold rt
  have e : l.length = (l.length - 1) + 1 := by omega
  conv => rhs; rw [e]; unfold rtF
  rw [if_neg h]
  exact rtF_any pr _ _ _ (by omega) (by omega)
theorem rt_two (pr : Nat → Nat → Nat) (a b : Nat) : rt pr [a, b] = pr a b := by rw [← rt_lvl]; rfl
theorem rt_halves (pr : Nat → Nat → Nat) : ∀ (p : Nat) (l : List Nat), 2 ^ p < l.length → l.length ≤ 2 * 2 ^ p → rt pr l = pr (rt pr (l.take (2 ^ p))) (rt pr (l.drop (2 ^ p)))
 | 0, l, h1, h2 => by
  match l, h1, h2 with
  | [], h1, _ => simp at h1
  | [a], h1, _ => simp at h1
  | [a, b], _, _ => rw [rt_two]; rfl
  | a :: b :: c :: l, _, h2 => simp at h2
 | p + 1, l, h1, h2 => by
  have e : 2 ^ (p + 1) = 2 * 2 ^ p := by rw [Nat.pow_succ]; omega
  rw [e] at h1 h2 ⊢
  obtain ⟨ha, hb⟩ := lvl_app pr (2 ^ p) l (by omega)
  have hl := lvl_len pr l
  have ih := rt_halves pr p (lvl pr l) (by omega) (by omega)
  rw [rt_lvl] at ih
  rw [ih, ha, List.take_left' hb, List.drop_left' hb, rt_lvl, rt_lvl]
end Go.Proofs.YtllmjdcblfkfaaaGreat
namespace Go.Proofs
open Go.Shelf
def Tryz.lays169_ren : Go.Shelf.Ren := ⟨fun | 169 => 71 | n => n, fun | 70 => 115 | 9 => 9 | 0 => 0 | 72 => 117 | 37 => 74 | 127 => 162 | 3 => 3 | 5 => 5 | n => n, fun | n => n⟩
theorem Tryz.lays169 : Go.Proofs.Lays.n169 Tryz.prog Tryz.lays169_ren := {
 mixed := by kernel_rfl
 f169 := Tryz.func71.trans (congrArg some (by kernel_rfl))
 t0 := Tryz.underlying0
 a0 := Tryz.isAgg0
 z0 := Tryz.sizeOf0
 v0 := Tryz.zeroValue0
 t3 := Tryz.underlying3
 a3 := Tryz.isAgg3
 z3 := Tryz.sizeOf3
 v3 := Tryz.zeroValue3
 t9 := Tryz.underlying9
 a9 := Tryz.isAgg9
 z9 := Tryz.sizeOf9
 v9 := Tryz.zeroValue9
 t37 := Tryz.underlying74
 a37 := Tryz.isAgg74
 z37 := Tryz.sizeOf74
 v37 := Tryz.zeroValue74
 t70 := Tryz.underlying115
 a70 := Tryz.isAgg115
 z70 := Tryz.sizeOf115
 v70 := Tryz.zeroValue115
 t72 := Tryz.underlying117
 a72 := Tryz.isAgg117
 z72 := Tryz.sizeOf117
 v72 := Tryz.zeroValue117
 t127 := Tryz.underlying162
 a127 := Tryz.isAgg162
 z127 := Tryz.sizeOf162
 v127 := Tryz.zeroValue162 }
theorem Tryz.Builder_Extra_169 : Builder.Extra Tryz.prog Tryz.lays169_ren := {
 sizeBuilder := by kernel_rfl
 liesBuilder := by kernel_rfl
 t5 := Tryz.underlying5
 a5 := Tryz.isAgg5
 z5 := Tryz.sizeOf5
 v5 := Tryz.zeroValue5
 infoByte := by kernel_rfl
 cellsByte := by kernel_rfl
 sizeByte := by kernel_rfl
 neB5 := by decide }
open Go.RowKit in
theorem Tryz.Builder_String_any (B b : Nat) (l : List UInt8) (w : World) (h : Lib.IsBuilder 117 5 B b (Lib.byteCells l) w) (hBw : B ≤ w.heap.size) :
 Calls Tryz.prog 71 #[.pointer (some ⟨b, 0, none⟩)] w fun e w' => e = .returned (.string ⟨l.toArray⟩) ∧ Below B w w' := Any.Builder_String_any Tryz.lays169 Tryz.Builder_Extra_169 B b l w h hBw
def Tryz.lays125_ren : Go.Shelf.Ren := ⟨fun | 125 => 65 | 128 => 99 | 129 => 100 | n => n, fun | 46 => 113 | 3 => 3 | 51 => 102 | 53 => 32 | 4 => 4 | 5 => 5 | 9 => 9 | n => n, fun | n => n⟩
theorem Tryz.lays125 : Go.Proofs.Lays.n125 Tryz.prog Tryz.lays125_ren := {
 mixed := by kernel_rfl
 f125 := Tryz.func65.trans (congrArg some (by kernel_rfl))
 f128 := Tryz.func99.trans (congrArg some (by kernel_rfl))
 f129 := Tryz.func100.trans (congrArg some (by kernel_rfl))
 t3 := Tryz.underlying3
 a3 := Tryz.isAgg3
 z3 := Tryz.sizeOf3
 v3 := Tryz.zeroValue3
 t4 := Tryz.underlying4
 a4 := Tryz.isAgg4
 z4 := Tryz.sizeOf4
 v4 := Tryz.zeroValue4
 t5 := Tryz.underlying5
 a5 := Tryz.isAgg5
 z5 := Tryz.sizeOf5
 v5 := Tryz.zeroValue5
 t9 := Tryz.underlying9
 a9 := Tryz.isAgg9
 z9 := Tryz.sizeOf9
 v9 := Tryz.zeroValue9
 t46 := Tryz.underlying113
 a46 := Tryz.isAgg113
 z46 := Tryz.sizeOf113
 v46 := Tryz.zeroValue113
 t51 := Tryz.underlying102
 a51 := Tryz.isAgg102
 z51 := Tryz.sizeOf102
 v51 := Tryz.zeroValue102
 t53 := Tryz.underlying32
 a53 := Tryz.isAgg32
 z53 := Tryz.sizeOf32
 v53 := Tryz.zeroValue32 }
theorem Tryz.bits_Len (x : Int) (w : World) (h0 : 0 ≤ x) (h1 : x ≤ 18446744073709551615) :
 Calls Tryz.prog 65 #[.int .u64 x] w fun e w' => e = .returned (.int .i64 (Lib.bitLen x.toNat)) ∧ w' = w := Any.bits_Len Tryz.lays125 x w h0 h1
end Go.Proofs
namespace Go.Proofs.YtllmjdcblfkfaaaGreat
set_option linter.all false
open Go.RowKit
def sp (n : Nat) : Nat := Lib.bitLen (n - 1) - 1
theorem sp_all : ∀ n : Fin 257, 2 ≤ n.val → 1 ≤ Lib.bitLen (n.val - 1) ∧ sp n.val ≤ 7 ∧ 2 ^ sp n.val < n.val ∧ n.val ≤ 2 * 2 ^ sp n.val := by decide +kernel
theorem sp_any (n : Nat) (h2 : 2 ≤ n) (h : n ≤ 256) : 1 ≤ Lib.bitLen (n - 1) ∧ sp n ≤ 7 ∧ 2 ^ sp n < n ∧ n ≤ 2 * 2 ^ sp n := sp_all ⟨n, by omega⟩ h2
set_option maxHeartbeats 1000000 in
theorem split_any (n : Nat) (h2 : 2 ≤ n) (h : n ≤ 256) (w : World) :
 Calls Tryz.prog 36 #[.int .i64 n] w fun e w' => e = .returned (.int .i64 (2 ^ sp n : Nat)) ∧ w = w' := by
 obtain ⟨s1, s2, s3, s4⟩ := sp_any n h2 h
 have hp : sp n = Lib.bitLen (n - 1) - 1 := rfl
 have hN : ((n : Int) - 1).toNat = n - 1 := by omega
 have hlt : 2 ^ sp n ≤ 128 := Nat.pow_le_pow_right (n := 2) (by decide) s2
 obtain ⟨L, hL⟩ : ∃ L, L = Lib.bitLen (n - 1) := ⟨_, rfl⟩
 have R : PLift (∀ w, Calls Tryz.prog 65 #[.int .u64 ((n : Int) - 1)] w fun e w' => e = .returned (.int .i64 L) ∧ w' = w) := PLift.up (fun w => by
  have := Tryz.bits_Len ((n : Int) - 1) w (by omega) (by omega)
  rw [hN, ← hL] at this; exact this)
 rw [← hL] at hp s1
 obtain ⟨q, rfl⟩ : ∃ q, L = q + 1 := ⟨L - 1, by omega⟩
 have hq : sp n = q := by omega
 rw [hq] at hlt s2 ⊢
 clear hp hL s3 s4 hN hq s1
 go_enter Tryz.func36, Tryz.ntmps36
 go_wp2_with fail
 refine (R.down _).mono ?_
 rintro e w' ⟨rfl, rfl⟩
 go_wp2_with fail
 go_returns
 refine ⟨?_, rfl⟩
 have hW : wrap64 (2 ^ q) = ((2 ^ q : Nat) : Int) := by
  rw [show ((2 : Int) ^ q) = ((2 ^ q : Nat) : Int) from by simp]
  generalize 2 ^ q = y at *
  unfold wrap64; omega
 show Ending.returned (.int .i64 (wrap64 (2 ^ q))) = _
 rw [hW]
theorem lvl_lt : ∀ l : List Nat, (∀ x ∈ l, x < 18446744073709551616) → ∀ x ∈ lvl pairN l, x < 18446744073709551616
 | [], _, x, hx => by simp [lvl] at hx
 | [a], h, x, hx => by simp only [lvl] at hx; exact h x hx
 | a :: b :: l, h, x, hx => by
  rw [lvl] at hx
  rcases List.mem_cons.1 hx with rfl | hx
  ·exact pairN_lt a b
  ·exact lvl_lt l (fun y hy => h y (by simp [hy])) x hx
theorem rtF_lt : ∀ (f : Nat) (l : List Nat), (∀ x ∈ l, x < 18446744073709551616) → rtF pairN f l < 18446744073709551616
 | 0, l, h => by
  cases l with
  | nil => simp [rtF]
  | cons a l => simpa [rtF] using h a (by simp)
 | f + 1, l, h => by
  unfold rtF
  split
  ·cases l with
   | nil => simp
   | cons a l => simpa using h a (by simp)
  ·exact rtF_lt f _ (lvl_lt l h)
theorem rtN_lt (xs : List ByteArray) : rt pairN (xs.map leafN) < 18446744073709551616 := by
 refine rtF_lt _ _ fun x hx => ?_
 obtain ⟨s, _, rfl⟩ := List.mem_map.1 hx
 exact leafN_lt s
end Go.Proofs.YtllmjdcblfkfaaaGreat
namespace Go.Proofs.YtllmjdcblfkfaaaGreat
set_option linter.all false
def bes (l : List Nat) (i : Nat) : List Nat := (l[i ^^^ 1]?).toList
def trF (pr : Nat → Nat → Nat) : Nat → List Nat → Nat → List Nat
 | 0, _, _ => []
 | f + 1, l, i => if l.length ≤ 1 then [] else bes l i ++ trF pr f (lvl pr l) (i / 2)
def tr (pr : Nat → Nat → Nat) (l : List Nat) (i : Nat) : List Nat := trF pr l.length l i
theorem trF_any (pr : Nat → Nat → Nat) : ∀ (f g : Nat) (l : List Nat) (i : Nat), l.length ≤ f → l.length ≤ g → trF pr f l i = trF pr g l i
 | 0, g, l, i, h, _ => by
  have : l = [] := List.eq_nil_of_length_eq_zero (by omega)
  subst this
  cases g <;> simp [trF]
 | f + 1, 0, l, i, _, h => by
  have : l = [] := List.eq_nil_of_length_eq_zero (by omega)
  subst this
  simp [trF]
 | f + 1, g + 1, l, i, h1, h2 => by
  unfold trF
  split
  ·rfl
  ·have hl := lvl_len pr l
   rw [trF_any pr f g _ _ (by omega) (by omega)]
theorem tr_short (pr : Nat → Nat → Nat) (l : List Nat) (i : Nat) (h : l.length ≤ 1) : tr pr l i = [] := by
 unfold tr
 cases hl : l.length with
 | zero => rfl
 | succ f => rw [trF, if_pos (by omega)]
theorem xor_one (i : Nat) : i ^^^ 1 = if i % 2 = 0 then i + 1 else i - 1 := by
 have h1 : (i ^^^ 1) / 2 = i / 2 := by rw [Nat.xor_div_two]; simp
 rcases Nat.mod_two_eq_zero_or_one i with h | h
 ·have h2 : (i ^^^ 1) % 2 = 1 := by rw [Nat.xor_mod_two_eq_one]; omega
  rw [if_pos h]; omega
 ·have h2 : (i ^^^ 1) % 2 = 0 := by
   have : ¬ (i ^^^ 1) % 2 = 1 := by rw [Nat.xor_mod_two_eq_one]; omega
   omega
  rw [if_neg (by omega)]; omega
theorem tr_lvl (pr : Nat → Nat → Nat) (l : List Nat) (i : Nat) (hi : i < l.length) : tr pr l i = bes l i ++ tr pr (lvl pr l) (i / 2) := by
 have hl := lvl_len pr l
 by_cases h : l.length ≤ 1
 ·rw [tr_short pr l i h, tr_short pr (lvl pr l) _ (by omega)]
  have h0 : i = 0 := by omega
  subst h0
  unfold bes
  rw [xor_one, if_pos rfl, List.getElem?_eq_none (by omega)]; rfl
 ·unfold tr
  have e : l.length = (l.length - 1) + 1 := by omega
  rw [e, trF, if_neg (by omega)]
  rw [trF_any pr (l.length - 1) (lvl pr l).length _ _ (by omega) (Nat.le_refl _)]
theorem tr_halves (pr : Nat → Nat → Nat) : ∀ (p : Nat) (l : List Nat) (i : Nat), 2 ^ p < l.length → l.length ≤ 2 * 2 ^ p → i < l.length →
 tr pr l i = if i < 2 ^ p then tr pr (l.take (2 ^ p)) i ++ [rt pr (l.drop (2 ^ p))] else tr pr (l.drop (2 ^ p)) (i - 2 ^ p) ++ [rt pr (l.take (2 ^ p))]
 | 0, l, i, h1, h2, hi => by
  match l, h1, h2 with
  | [], h1, _ => simp at h1
  | [a], h1, _ => simp at h1
  | [a, b], _, _ =>
   match i, hi with
   | 0, _ => rw [tr_lvl pr _ _ (by simp), tr_short pr (lvl pr [a, b]) _ (by simp [lvl]), if_pos (by simp), tr_short pr _ _ (by simp)]; rfl
   | 1, _ => rw [tr_lvl pr _ _ (by simp), tr_short pr (lvl pr [a, b]) _ (by simp [lvl]), if_neg (by simp), tr_short pr _ _ (by simp)]; rfl
   | i + 2, hi => simp only [List.length_cons, List.length_nil] at hi; omega
  | a :: b :: c :: l, _, h2 => simp at h2
 | p + 1, l, i, h1, h2, hi => by
  have e : 2 ^ (p + 1) = 2 * 2 ^ p := by rw [Nat.pow_succ]; omega
  have ih := tr_halves pr p (lvl pr l) (i / 2)
  have hl := lvl_len pr l
  rw [e] at h1 h2 ⊢
  generalize 2 ^ p = q at *
  obtain ⟨ha, hb⟩ := lvl_app pr q l (by omega)
  have ih := ih (by omega) (by omega) (by omega)
  rw [tr_lvl pr l i hi, ih, ha, List.take_left' hb, List.drop_left' hb, rt_lvl, rt_lvl]
  have hx := xor_one i
  by_cases hc : i < 2 * q
  ·rw [if_pos hc, if_pos (by omega), tr_lvl pr (l.take (2 * q)) i (by simp; omega), List.append_assoc]
   congr 1
   unfold bes
   rw [List.getElem?_take_of_lt (by rw [hx]; split <;> omega)]
  ·rw [if_neg hc, if_neg (by omega), tr_lvl pr (l.drop (2 * q)) (i - 2 * q) (by simp; omega), List.append_assoc, show (i - 2 * q) / 2 = i / 2 - q from by omega]
   congr 1
   unfold bes
   rw [List.getElem?_drop]
   congr 2
   rw [hx, xor_one (i - 2 * q)]
   split <;> split <;> omega
end Go.Proofs.YtllmjdcblfkfaaaGreat
namespace Go.Proofs.YtllmjdcblfkfaaaGreat
set_option linter.all false
open Go.RowKit
def cs (n : Nat) : Nat := n / 2 ^^^ (if n % 2 = 1 then 3988292384 else 0)
def csk : Nat → Nat → Nat
 | 0, n => n
 | k + 1, n => cs (csk k n)
theorem cs_lt (n : Nat) (h : n < 4294967296) : cs n < 4294967296 := by
 unfold cs
 refine Nat.xor_lt_two_pow (n := 32) (by omega) ?_
 split <;> decide
theorem csk_lt (k n : Nat) (h : n < 4294967296) : csk k n < 4294967296 := by
 induction k with
 | zero => exact h
 | succ k ih => exact cs_lt _ ih
theorem x32 (a b : Nat) (ha : a < 4294967296) (hb : b < 4294967296) : bits .xor .u32 (a : Int) (b : Int) = ((a ^^^ b : Nat) : Int) := u32_xor_nat a b ha hb
theorem x32_lt (a b : Nat) (ha : a < 4294967296) (hb : b < 4294967296) : a ^^^ b < 4294967296 := Nat.xor_lt_two_pow (n := 32) ha hb
def tk (n b : Nat) : Nat := csk 8 (n ^^^ b)
theorem tk_lt (n b : Nat) (h : n < 4294967296) (hb : b < 256) : tk n b < 4294967296 := csk_lt 8 _ (x32_lt n b h (by omega))
theorem cs_eq (y : Nat) (h : y < 4294967296) : bits .xor .u32 ((y : Int) / 2) (bits .and .u32 3988292384 (-bits .and .u32 (y : Int) 1 % 4294967296)) = ((cs y : Nat) : Int) := by
 have h1 : bits .and .u32 (y : Int) 1 = ((y % 2 : Nat) : Int) := by
  have := u32_and_nat y 1 h (by decide)
  rw [Nat.and_one_is_mod] at this; exact this
 rw [h1]
 have h2 : (y : Int) / 2 = ((y / 2 : Nat) : Int) := by omega
 rw [h2]
 unfold cs
 rcases Nat.mod_two_eq_zero_or_one y with h0 | h0
 ·rw [h0]
  have e : bits .and .u32 3988292384 (-((0 : Nat) : Int) % 4294967296) = ((0 : Nat) : Int) := by decide +kernel
  rw [e, x32 _ _ (by omega) (by decide)]; simp
 ·rw [h0]
  have e : bits .and .u32 3988292384 (-((1 : Nat) : Int) % 4294967296) = ((3988292384 : Nat) : Int) := by decide +kernel
  rw [e, x32 _ _ (by omega) (by decide)]; simp
theorem cs_xor (x y : Nat) : cs (x ^^^ y) = (if x % 2 = y % 2 then x / 2 ^^^ y / 2 else (x / 2 ^^^ 3988292384) ^^^ y / 2) := by
 unfold cs
 rw [Nat.xor_div_two]
 by_cases h : x % 2 = y % 2
 ·have : ¬ (x ^^^ y) % 2 = 1 := by rw [Nat.xor_mod_two_eq_one]; omega
  rw [if_neg this, if_pos h, Nat.xor_zero]
 ·have : (x ^^^ y) % 2 = 1 := by rw [Nat.xor_mod_two_eq_one]; omega
  rw [if_pos this, if_neg h, Nat.xor_assoc, Nat.xor_comm (y / 2), ← Nat.xor_assoc]
set_option maxHeartbeats 800000 in
theorem take_any (n b : Nat) (w : World) (hn : n < 4294967296) (hb : b < 256) :
 Calls Tryz.prog 136 #[.int .u32 n, .int .u8 b] w fun e w' => e = .returned (.int .u32 (tk n b : Nat)) ∧ w = w' := by
 have hx := x32 n b hn (by omega)
 have hl := x32_lt n b hn (by omega)
 have e : tk n b = csk 8 (n ^^^ b) := rfl
 generalize n ^^^ b = z at hx hl e
 have E := Lib.hid e; clear e
 go_enter Tryz.func136, Tryz.ntmps136
 go_wp2_with fail
 go_loop [0, 9] (fun m i => ∃ k : Nat, k ≤ 8 ∧ i = .int .i64 k ∧ m = .int .u32 (csk k z : Nat)) (fun _ i => 8 - (intOf i).toNat)
 case atStart => exact ⟨0, by omega, rfl, rfl⟩
 case round =>
  obtain ⟨k, hk, rfl, rfl⟩ := hrel
  by_cases h8 : k < 8
  ·have hlk := csk_lt k z hl
   have hs : csk (k + 1) z = cs (csk k z) := rfl
   generalize csk k z = y at *
   have hls := cs_lt y hlk
   have HS := Lib.hid hs; clear hs
   go_wp2_with fail
   go_round
   case rel => exact ⟨k + 1, by omega, by go_num, by rw [HS.out, cs_eq y hlk]⟩
   case measure => simp [intOf]; omega
  ·obtain rfl : k = 8 := by omega
   go_wp2_with fail
   go_ret
   exact ⟨ret_u32 (by rw [E.out]), rfl⟩
theorem step_byte (x y k n b : Nat) (h : x ^^^ y = csk k (n ^^^ b) ∧ y = b / 2 ^ k) :
 (x % 2 = y % 2 → (x / 2) ^^^ (y / 2) = csk (k + 1) (n ^^^ b) ∧ y / 2 = b / 2 ^ (k + 1)) ∧ (x % 2 ≠ y % 2 → (x / 2 ^^^ 3988292384) ^^^ (y / 2) = csk (k + 1) (n ^^^ b) ∧ y / 2 = b / 2 ^ (k + 1)) := by
 obtain ⟨h1, h2⟩ := h
 have e1 : csk (k + 1) (n ^^^ b) = cs (x ^^^ y) := by rw [h1]; rfl
 have e2 : y / 2 = b / 2 ^ (k + 1) := by rw [h2, Nat.div_div_eq_div_mul, Nat.pow_succ]
 rw [e1, cs_xor]
 exact ⟨fun h => ⟨by rw [if_pos h], e2⟩, fun h => ⟨by rw [if_neg h], e2⟩⟩
set_option maxHeartbeats 800000 in
theorem crcByte_any (n b : Nat) (w : World) (hn : n < 4294967296) (hb : b < 256) :
 Calls Tryz.prog 84 #[.int .u32 n, .int .u8 b] w fun e w' => e = .returned (.int .u32 (tk n b : Nat)) ∧ w = w' := by
 go_enter Tryz.func84, Tryz.ntmps84
 go_wp2_with fail
 go_loop [0, 1, 5, 6] (fun m c _ i => ∃ k x y : Nat, k ≤ 8 ∧ i = .int .i64 k ∧ m = .int .u32 (x : Nat) ∧ c = .int .u8 (y : Nat) ∧ Hid (x ^^^ y = csk k (n ^^^ b) ∧ y = b / 2 ^ k) ∧ x < 4294967296 ∧ y < 256) (fun _ _ _ i => 8 - (intOf i).toNat)
 case atStart => exact ⟨0, n, b, by omega, rfl, rfl, rfl, ⟨rfl, by simp⟩, hn, hb⟩
 case round =>
  obtain ⟨k, x, y, hk, rfl, rfl, rfl, hI, hx, hy⟩ := hrel
  by_cases h8 : k < 8
  ·obtain ⟨s1, s2⟩ := step_byte x y k n b hI
   have H1 := Lib.hid s1
   have H2 := Lib.hid s2
   have hxx := x32 (x / 2) 3988292384 (by omega) (by decide)
   have hxl := x32_lt (x / 2) 3988292384 (by omega) (by decide)
   have HXX := Lib.hid hxx
   have HXL := Lib.hid hxl
   clear s1 s2 hI hxx hxl
   by_cases hp : x % 2 = y % 2
   ·have hP := Lib.hid hp
    have hb1 : ((x : Int) % 2 == 1) = ((y : Int) % 2 == 1) := by
     rw [Bool.eq_iff_iff]; simp; omega
    generalize hq : ((y : Int) % 2 == 1) = q at hb1
    clear hp
    have h2 : ((x : Int) % 2 == 1) = q := hb1
    cases q
    all_goals
     go_wp2_with fail
     go_round
     case rel => exact ⟨k + 1, x / 2, y / 2, by omega, by go_num, by go_num, by go_num, H1.out hP.out, by omega, by omega⟩
     case measure => simp [intOf]; omega
   ·have hP := Lib.hid hp
    have hb1 : ((x : Int) % 2 == 1) = !((y : Int) % 2 == 1) := by
     rw [Bool.eq_iff_iff]; simp; omega
    generalize hq : ((y : Int) % 2 == 1) = q at hb1
    clear hp
    cases q
    all_goals
     simp only [Bool.not_false, Bool.not_true] at hb1
     go_wp2_with fail
     go_round
     case rel => exact ⟨k + 1, x / 2 ^^^ 3988292384, y / 2, by omega, by go_num, by have := HXX.out; rw [← this]; go_num, by go_num, H2.out hP.out, HXL.out, by omega⟩
     case measure => simp [intOf]; omega
  ·obtain rfl : k = 8 := by omega
   go_wp2_with fail
   go_ret
   refine ⟨ret_u32 ?_, rfl⟩
   obtain ⟨h1, h2⟩ := hI.out
   have hy0 : y = 0 := by rw [h2]; exact Nat.div_eq_of_lt hb
   rw [hy0, Nat.xor_zero] at h1
   rw [h1]; rfl
def tks (n : Nat) (l : List UInt8) : Nat := l.foldl (fun n b => tk n b.toNat) n
theorem tks_lt (l : List UInt8) : ∀ n, n < 4294967296 → tks n l < 4294967296 := by
 induction l with
 | nil => intro n h; exact h
 | cons b l ih => intro n h; exact ih _ (tk_lt n _ h (UInt8.toNat_lt b))
theorem tks_snoc (n : Nat) (l : List UInt8) (b : UInt8) : tks n (l ++ [b]) = tk (tks n l) b.toNat := by simp [tks]
def crcM (n : Nat) (l : List UInt8) : Nat := 4294967295 - tks (4294967295 - n) l
theorem crcM_lt (n : Nat) (l : List UInt8) : crcM n l < 4294967296 := by unfold crcM; omega
theorem not32 (n : Nat) (h : n < 4294967296) : bits .xor .u32 IntKind.u32.max (n : Int) = ((4294967295 - n : Nat) : Int) := by
 have e1 : IntKind.u32.max = ((4294967295 : Nat) : Int) := by decide
 rw [e1, x32 _ _ (by decide) h]
 congr 1
 have e2 : (BitVec.ofNat 32 4294967295 ^^^ BitVec.ofNat 32 n) = ~~~(BitVec.ofNat 32 n) := by
  have : BitVec.ofNat 32 4294967295 = BitVec.allOnes 32 := by decide
  rw [this, BitVec.allOnes_xor]
 have e3 := congrArg BitVec.toNat e2
 rw [BitVec.toNat_xor, BitVec.toNat_not, BitVec.toNat_ofNat, BitVec.toNat_ofNat, Nat.mod_eq_of_lt (show n < 2 ^ 32 from h)] at e3
 exact e3
set_option maxHeartbeats 800000 in
theorem more_any (n : Nat) (s : ByteArray) (w : World) (hn : n < 4294967296) (hs : s.size ≤ 140737488351232) :
 Calls Tryz.prog 104 #[.int .u32 n, .string s] w fun e w' => e = .returned (.int .u32 (crcM n s.data.toList : Nat)) ∧ w = w' := by
 go_enter Tryz.func104, Tryz.ntmps104
 go_wp2_with fail
 go_loop [0, 5, 10] (fun m _ i => ∃ k : Nat, k ≤ s.size ∧ i = .int .i64 k ∧ m = .int .u32 (tks (4294967295 - n) (s.data.toList.take k) : Nat)) (fun _ _ i => s.size - (intOf i).toNat)
 case atStart => exact ⟨0, by omega, rfl, by rw [not32 n hn]; rfl⟩
 case round =>
  obtain ⟨k, hk, rfl, rfl⟩ := hrel
  have hl := tks_lt (s.data.toList.take k) (4294967295 - n) (by omega)
  by_cases h8 : k < s.size
  ·have hs1 : tks (4294967295 - n) (s.data.toList.take (k + 1)) = tk (tks (4294967295 - n) (s.data.toList.take k)) s[k].toNat := by rw [bytes_snoc s k h8, tks_snoc]
   generalize tks (4294967295 - n) (s.data.toList.take k) = y at *
   have HS := Lib.hid hs1; clear hs1
   go_wp2_with (go_at_call 136; refine (take_any _ _ _ hl (UInt8.toNat_lt _)).mono ?_; rintro e w' ⟨rfl, rfl⟩)
   go_round
   case rel => exact ⟨k + 1, by omega, by go_num, by rw [HS.out]⟩
   case measure => simp [intOf]; omega
  ·have hke : k = s.size := by omega
   go_wp2_with fail
   go_ret
   refine ⟨ret_u32 ?_, rfl⟩
   rw [hke] at hl
   rw [not32 _ hl, crcM, take_all]
set_option maxHeartbeats 800000 in
theorem crcMore_any (n : Nat) (s : ByteArray) (w : World) (hn : n < 4294967296) (hs : s.size ≤ 140737488351232) :
 Calls Tryz.prog 54 #[.int .u32 n, .string s] w fun e w' => e = .returned (.int .u32 (crcM n s.data.toList : Nat)) ∧ Below w.heap.size w w' := by
 have hcv := fun w => Lib.run_convert_string_bytes (P := Tryz.prog) w 9 74 5 s Tryz.underlying9 Tryz.underlying74 Tryz.underlying5
 go_enter Tryz.func54, Tryz.ntmps54
 go_wp2_with fail
 have hcell := fun j hj => Lib.bytesWorld_cell w 5 s j hj
 have hbw : Below w.heap.size w (Lib.bytesWorld w 5 s) := ⟨rfl, rfl, rfl, by rw [Lib.bytesWorld_size]; omega, fun k hk => Lib.bytesWorld_at_old w _ s k hk⟩
 obtain ⟨W, hW⟩ : ∃ W, W = Lib.bytesWorld w 5 s := ⟨_, rfl⟩
 rw [← hW] at hcell hbw ⊢
 generalize grownCap w s.size 0 5 = cp
 have HC := Lib.hid hcell
 have HB := Lib.hid hbw
 clear hcell hbw hW hcv
 go_loop [0, 6, 12] (fun m _ i => ∃ k : Nat, k ≤ s.size ∧ i = .int .i64 k ∧ m = .int .u32 (tks (4294967295 - n) (s.data.toList.take k) : Nat)) (fun _ _ i => s.size - (intOf i).toNat)
 case atStart => exact ⟨0, by omega, rfl, congrArg (Value.int .u32) (by show _ = ((4294967295 - n : Nat) : Int); omega)⟩
 case round =>
  obtain ⟨k, hk, rfl, rfl⟩ := hrel
  have hl := tks_lt (s.data.toList.take k) (4294967295 - n) (by omega)
  by_cases h8 : k < s.size
  ·have hs1 : tks (4294967295 - n) (s.data.toList.take (k + 1)) = tk (tks (4294967295 - n) (s.data.toList.take k)) s[k].toNat := by rw [bytes_snoc s k h8, tks_snoc]
   generalize tks (4294967295 - n) (s.data.toList.take k) = y at *
   have HS := Lib.hid hs1; clear hs1
   have hc := HC.out k h8
   have he : (s.data.toList.getD k 0) = s[k] := by
    rw [List.getD_eq_getElem?_getD, List.getElem?_eq_getElem (by simpa using h8)]; rfl
   rw [he] at hc
   have hlt := UInt8.toNat_lt s[k]
   generalize s[k].toNat = q at *
   clear he
   go_wp2_with (go_at_call 84; refine (crcByte_any _ _ _ hl hlt).mono ?_; rintro e w' ⟨rfl, rfl⟩)
   go_round
   case rel => exact ⟨k + 1, by omega, by go_num, by rw [HS.out]⟩
   case measure => simp [intOf]; omega
  ·have hke : k = s.size := by omega
   have hfin : tks (4294967295 - n) (s.data.toList.take k) = tks (4294967295 - n) s.data.toList := by rw [hke, take_all]
   have HF := Lib.hid hfin; clear hfin hke
   generalize tks (4294967295 - n) (s.data.toList.take k) = y at *
   go_wp2_with fail
   go_ret
   refine ⟨ret_u32 ?_, HB.out⟩
   rw [crcM, ← HF.out]; omega
set_option maxHeartbeats 800000 in
theorem of_crc (s : ByteArray) (w : World) (hs : s.size ≤ 140737488351232) :
 Calls Tryz.prog 72 #[.string s] w fun e w' => e = .returned (.int .u32 (crcM 0 s.data.toList : Nat)) ∧ w = w' := by
 go_enter Tryz.func72, Tryz.ntmps72
 go_wp2_with fail
 refine (more_any 0 s w (by decide) hs).mono ?_
 rintro e w' ⟨rfl, rfl⟩
 go_wp2_with fail
 go_ret
 exact ⟨rfl, rfl⟩
def sealB (n : Nat) : List UInt8 := [UInt8.ofNat (n % 256), UInt8.ofNat (n / 256 % 256), UInt8.ofNat (n / 65536 % 256), UInt8.ofNat (n / 16777216 % 256)]
def sealS (s : ByteArray) : ByteArray := s ++ ⟨(sealB (crcM 0 s.data.toList)).toArray⟩
theorem sealS_size (s : ByteArray) : (sealS s).size = s.size + 4 := by unfold sealS; rw [ByteArray.size_append]; rfl
set_option maxHeartbeats 800000 in
set_option maxRecDepth 100000 in
theorem seal_any (s : ByteArray) (w : World) (hs : s.size ≤ 140737488351232) :
 Calls Tryz.prog 40 #[.string s] w fun e w' => e = .returned (.string (sealS s)) ∧ Below w.heap.size w w' := by
 have hS : sealS s = s ++ ⟨(sealB (crcM 0 s.data.toList)).toArray⟩ := rfl
 have hl := crcM_lt 0 s.data.toList
 go_enter Tryz.func40, Tryz.ntmps40
 go_wp2_with fail
 refine (of_crc s w hs).mono ?_
 rintro e w' ⟨rfl, rfl⟩
 generalize crcM 0 s.data.toList = n at *
 have hcv := run_convert_bytes_back (P := Tryz.prog) (w.alloc (Obj.cells #[Value.int IntKind.u8 ((n : Int) % 256), Value.int IntKind.u8 ((n : Int) / 256 % 256), Value.int IntKind.u8 ((n : Int) / 65536 % 256), Value.int IntKind.u8 ((n : Int) / 16777216)] 5)) 74 9 5 ⟨w.heap.size, 0, none⟩ 4 (sealB n) Tryz.underlying74 Tryz.underlying5 Tryz.underlying9 (by
  intro j hj
  have h1 : (UInt8.ofNat (n % 256)).toNat = n % 256 := u8_ofNat_toNat _ (by omega)
  have h2 : (UInt8.ofNat (n / 256 % 256)).toNat = n / 256 % 256 := u8_ofNat_toNat _ (by omega)
  have h3 : (UInt8.ofNat (n / 65536 % 256)).toNat = n / 65536 % 256 := u8_ofNat_toNat _ (by omega)
  have h4 : (UInt8.ofNat (n / 16777216 % 256)).toNat = n / 16777216 % 256 := u8_ofNat_toNat _ (by omega)
  have hjl : j < 4 := hj
  rw [Addr.add_lit]
  match j, hjl with
  | 0, _ => simp only [sealB, List.getElem_cons_zero, h1]; simp [go_sem]
  | 1, _ => simp only [sealB, List.getElem_cons_succ, List.getElem_cons_zero, h2]; simp [go_sem]
  | 2, _ => simp only [sealB, List.getElem_cons_succ, List.getElem_cons_zero, h3]; simp [go_sem]
  | 3, _ => simp only [sealB, List.getElem_cons_succ, List.getElem_cons_zero, h4]; simp [go_sem]; omega)
 have e4 : (sealB n).length = 4 := rfl
 rw [e4] at hcv
 have hsz : (ByteArray.mk (sealB n).toArray).size = 4 := rfl
 have HS := Lib.hid hS; clear hS
 obtain ⟨T, hT⟩ : ∃ T, T = ByteArray.mk (sealB n).toArray := ⟨_, rfl⟩
 rw [← hT] at hcv hsz
 have HT := Lib.hid hT; clear hT e4
 go_wp2_with fail
 go_ret
 refine ⟨congrArg Ending.returned (congrArg Value.string ?_), by go_grown⟩
 rw [HS.out, HT.out]
def bcells (xs : List Nat) (k : Nat) : List Value := (xs.take k).map (fun x : Nat => Value.int .u8 x) ++ List.replicate (xs.length - k) (.int .u8 0)
theorem bcells_set (xs : List Nat) (k : Nat) (h : k < xs.length) : (bcells xs k).set k (.int .u8 (xs[k] : Nat)) = bcells xs (k + 1) := by
 unfold bcells
 have hl : ((xs.take k).map (fun x => Value.int .u8 (x : Nat))).length = k := by simp; omega
 rw [List.set_append_right _ _ (by omega), hl, Nat.sub_self]
 have e : xs.length - k = (xs.length - (k + 1)) + 1 := by omega
 rw [e, List.replicate_succ, List.set_cons_zero, take_snoc' xs k h, List.map_append]
 simp
set_option maxHeartbeats 1000000 in
set_option maxRecDepth 100000 in
theorem bytes_any (a : Option Addr) (c B : Nat) (xs : List Nat) (w : World) (hm : xs.length ≤ 1000) (hx : Els w B a 1 ei64 (xs.map fun x : Nat => (x : Int))) (hB : B ≤ w.heap.size) (hb : ∀ x ∈ xs, x < 256) :
 Calls Tryz.prog 53 #[.slice a xs.length c] w fun e w' => e = .returned (.string ⟨(xs.map UInt8.ofNat).toArray⟩) ∧ Below w.heap.size w w' := by
 have H := Lib.hid hx; clear hx
 have HB := Lib.hid hb; clear hb
 go_enter Tryz.func53, Tryz.ntmps53
 go_wp2_with (at_make; refine wpMake _ rfl _ _ _ rfl w.heap.size _ _ _ elT_u8 xs.length _ _ rfl rfl rfl rfl ?_ ?_ ?_ ?_)
 ·omega
 ·simp only [maxLen]; omega
 ·omega
 intro w1 hown hg
 have hb1 : Below w.heap.size w w1 := (Below.refl _ _).grown hg (Nat.le_refl _) (by simp)
 have hcells : List.replicate xs.length (Value.int .u8 0) = bcells xs 0 := by simp [bcells]
 rw [hcells] at hown
 have HO := Lib.hid hown
 have HB1 := Lib.hid hb1
 clear hown hb1 hcells hg
 go_wp2_with fail
 go_loopw [4, 5, 11] (fun _ _ i wr => ∃ k : Nat, k ≤ xs.length ∧ i = .int .i64 k ∧ Hid (wr.ownsRow w.heap.size 5 1 (.slice (some ⟨w.heap.size, 0, none⟩) xs.length xs.length) xs.length (bcells xs k) ∧ Below w.heap.size w wr)) (fun _ _ i _ => xs.length - (intOf i).toNat)
 case atStart => exact ⟨0, by omega, rfl, HO.out, HB1.out⟩
 case round =>
  obtain ⟨k, hk, rfl, hI⟩ := hrel
  by_cases hlt : k < xs.length
  ·obtain ⟨b, o, rfl, hbB, hc⟩ := (H.out.below hI.out.2 hB).i64 k (by simpa using hlt)
   have hge : (xs.map fun x : Nat => (x : Int))[k]'(by simpa using hlt) = ((xs[k] : Nat) : Int) := by simp
   rw [hge] at hc
   have hx256 := HB.out xs[k] (List.getElem_mem hlt)
   have hset := bcells_set xs k hlt
   generalize xs[k] = x at *
   have hst := hI.out.1.stored k (.int .u8 x)
   have hfr := hI.out.1.frozenAt k
   have hcc : ∃ u, wr.cell? ⟨w.heap.size, k, none⟩ = some u := by
    have h := hI.out.1.cellAt k (by omega)
    rw [h]
    have hl := hI.out.1.1
    exact ⟨_, List.getElem?_eq_getElem (by omega)⟩
   obtain ⟨u, hu⟩ := hcc
   have HST := Lib.hid hst; clear hst
   have HSET := Lib.hid hset; clear hset hge
   go_wp2_with fail
   go_roundw
   case rel =>
    refine ⟨k + 1, by omega, by go_num, ?_, ?_⟩
    ·rw [← HSET.out]; exact HST.out.1
    ·exact hI.out.2.grown HST.out.2 hI.out.2.size (by simp)
   case measure => simp [intOf]; omega
  ·obtain rfl : k = xs.length := by omega
   have hcv := run_convert_bytes_back (P := Tryz.prog) wr 74 9 5 ⟨w.heap.size, 0, none⟩ xs.length (xs.map UInt8.ofNat) Tryz.underlying74 Tryz.underlying5 Tryz.underlying9 (by
    intro j hj
    have hj' : j < xs.length := by simpa using hj
    rw [Addr.add_lit, Nat.zero_add, hI.out.1.cellAt j (by omega)]
    simp only [bcells, List.take_length, Nat.sub_self, List.replicate_zero, List.append_nil, List.getElem?_map, List.getElem_map, List.getElem?_eq_getElem hj', Option.map_some, u8_ofNat_toNat _ (HB.out _ (List.getElem_mem hj'))])
   rw [List.length_map] at hcv
   go_wp2_with fail
   go_ret
   exact ⟨rfl, hI.out.2⟩
def packF : Nat → Nat → List UInt8
 | 0, n => [UInt8.ofNat n]
 | f + 1, n => if n < 128 then [UInt8.ofNat n] else UInt8.ofNat (128 + n % 128) :: packF f (n / 128)
def packB (n : Nat) : List UInt8 := packF 9 n
def packS (n : Nat) : ByteArray := ⟨(packB n).toArray⟩
theorem packF_len (f n : Nat) : 1 ≤ (packF f n).length ∧ (packF f n).length ≤ f + 1 := by
 induction f generalizing n with
 | zero => simp [packF]
 | succ f ih =>
  have := ih (n / 128)
  simp only [packF]; split <;> simp <;> omega
theorem packS_size (n : Nat) : 1 ≤ (packS n).size ∧ (packS n).size ≤ 10 := by
 have := packF_len 9 n
 show 1 ≤ (packF 9 n).toArray.size ∧ (packF 9 n).toArray.size ≤ 10
 simpa using this
theorem packF_small (f n : Nat) (h : n < 128) : packF f n = [UInt8.ofNat n] := by cases f <;> simp [packF, h]
def foldN (n : Int) : Nat := if 0 ≤ n then (2 * n).toNat else (2 * (-(n + 1)) + 1).toNat
theorem foldN_lt (n : Int) (h : I64 n) : foldN n < 18446744073709551616 := by unfold I64 at h; unfold foldN; split <;> omega
theorem xor_ones (a : Nat) (h : a < 18446744073709551616) : bits .xor .u64 (a : Int) (18446744073709551615 : Int) = ((18446744073709551615 - a : Nat) : Int) := by
 have e1 : (18446744073709551615 : Int) = ((18446744073709551615 : Nat) : Int) := rfl
 rw [e1, u64_xor_nat a _ h (by decide)]
 congr 1
 have e3 := congrArg BitVec.toNat (BitVec.xor_allOnes (x := BitVec.ofNat 64 a))
 rw [BitVec.toNat_xor, BitVec.toNat_not, BitVec.toNat_ofNat, BitVec.toNat_allOnes, Nat.mod_eq_of_lt (show a < 2 ^ 64 from h)] at e3
 exact e3
theorem xor_zero64 (a : Nat) (h : a < 18446744073709551616) : bits .xor .u64 (a : Int) (0 : Int) = (a : Int) := by
 have e1 : (0 : Int) = ((0 : Nat) : Int) := rfl
 rw [e1, u64_xor_nat a _ h (by decide)]
 simp
set_option maxHeartbeats 800000 in
theorem fold_any (n : Int) (h : I64 n) (w : World) :
 Calls Tryz.prog 70 #[.int .i64 n] w fun e w' => e = .returned (.int .u64 (foldN n : Nat)) ∧ w = w' := by
 unfold I64 at h
 go_enter Tryz.func70, Tryz.ntmps70
 go_wp2_with fail
 go_returns
 refine ⟨ret_u64 ?_, rfl⟩
 unfold foldN
 simp only [IntKind.wrap_u64]
 by_cases h0 : 0 ≤ n
 ·rw [if_pos h0, show n / 9223372036854775808 % 18446744073709551616 = 0 from by omega, show n % 18446744073709551616 * 2 % 18446744073709551616 = (((2 * n).toNat : Nat) : Int) from by omega, xor_zero64 _ (by omega)]
 ·rw [if_neg h0, show n / 9223372036854775808 % 18446744073709551616 = 18446744073709551615 from by omega, show n % 18446744073709551616 * 2 % 18446744073709551616 = (((2 * n + 18446744073709551616).toNat : Nat) : Int) from by omega, xor_ones _ (by omega)]
  omega
set_option maxHeartbeats 800000 in
theorem folded_any (n : Int) (h : I64 n) (w : World) :
 Calls Tryz.prog 29 #[.int .i64 n] w fun e w' => e = .returned (.int .u64 (foldN n : Nat)) ∧ w = w' := by
 unfold I64 at h
 by_cases h0 : 0 ≤ n
 ·go_enter Tryz.func29, Tryz.ntmps29
  go_wp2_with fail
  go_returns
  refine ⟨ret_u64 ?_, rfl⟩
  unfold foldN; rw [if_pos h0]; omega
 ·go_enter Tryz.func29, Tryz.ntmps29
  go_wp2_with fail
  go_returns
  refine ⟨ret_u64 ?_, rfl⟩
  unfold foldN; rw [if_neg (by omega)]; omega
set_option maxHeartbeats 1000000 in
set_option maxRecDepth 20000 in
theorem packed_any (f : Nat) : f ≤ 9 → ∀ (n : Nat) (w : World), n < 18446744073709551616 → n < 128 ^ (f + 1) →
 Calls Tryz.prog 28 #[.int .u64 n] w fun e w' => e = .returned (.string ⟨(packF f n).toArray⟩) ∧ Below w.heap.size w w' := by
 induction f with
 | zero =>
  intro _ n w h hf
  have h1 : n < 128 := by simpa using hf
  clear hf
  rw [packF_small 0 n h1]
  go_enter Tryz.func28, Tryz.ntmps28
  go_wp2_with fail
  refine (bytes_any _ _ (w.heap.size + 1) [n] _ (by simp) ?_ (by simp) (by simp; omega)).mono ?_
  ·refine .inr ⟨w.heap.size, 0, rfl, by omega, fun i j v hv => ?_⟩
   match i, j, hv with
   | 0, 0, hv => simp [ei64] at hv; subst hv; simp [go_sem]
   | 0, j + 1, hv => simp [ei64] at hv
   | i + 1, j, hv => simp at hv
  rintro e w1 ⟨rfl, hb⟩
  have HB := PLift.up (((below_lit w _).trans (hb.mono (by simp))))
  clear hb
  go_wp2_with fail
  go_returns
  exact ⟨rfl, HB.down⟩
 | succ f ih =>
  intro hf9 n w h hf
  by_cases h1 : n < 128
  ·clear ih hf
   rw [packF_small _ n h1]
   go_enter Tryz.func28, Tryz.ntmps28
   go_wp2_with fail
   refine (bytes_any _ _ (w.heap.size + 1) [n] _ (by simp) ?_ (by simp) (by simp; omega)).mono ?_
   ·refine .inr ⟨w.heap.size, 0, rfl, by omega, fun i j v hv => ?_⟩
    match i, j, hv with
    | 0, 0, hv => simp [ei64] at hv; subst hv; simp [go_sem]
    | 0, j + 1, hv => simp [ei64] at hv
    | i + 1, j, hv => simp at hv
   rintro e w1 ⟨rfl, hb⟩
   have HB := PLift.up (((below_lit w _).trans (hb.mono (by simp))))
   clear hb
   go_wp2_with fail
   go_returns
   exact ⟨rfl, HB.down⟩
  ·have hq : n / 128 < 128 ^ (f + 1) := by rw [Nat.pow_succ] at hf; exact Nat.div_lt_of_lt_mul (by omega)
   have IH := PLift.up (fun w => ih (by omega) (n / 128) w (by omega) hq)
   have hp : packF (f + 1) n = UInt8.ofNat (128 + n % 128) :: packF f (n / 128) := by simp [packF, h1]
   have HP := PLift.up hp
   have hl := (packF_len f (n / 128)).2
   clear ih hf hq hp
   go_enter Tryz.func28, Tryz.ntmps28
   go_wp2_with fail
   refine (bytes_any _ _ (w.heap.size + 1) [128 + n % 128] _ (by simp) ?_ (by simp) (by simp; omega)).mono ?_
   ·refine .inr ⟨w.heap.size, 0, rfl, by omega, fun i j v hv => ?_⟩
    match i, j, hv with
    | 0, 0, hv => simp [ei64] at hv; subst hv; simp [go_sem]
    | 0, j + 1, hv => simp [ei64] at hv
    | i + 1, j, hv => simp at hv
   rintro e w1 ⟨rfl, hb⟩
   have HB := PLift.up (((below_lit w _).trans (hb.mono (by simp))))
   clear hb
   have hsz := HB.down.size
   obtain ⟨T1, hT1⟩ : ∃ T1, T1 = ByteArray.mk (List.map UInt8.ofNat [128 + n % 128]).toArray := ⟨_, rfl⟩
   have hs1 : T1.size = 1 := by rw [hT1]; rfl
   have HQ : PLift (T1 ++ ByteArray.mk (packF f (n / 128)).toArray = ByteArray.mk (packF (f + 1) n).toArray) := PLift.up (by rw [HP.down, hT1]; rfl)
   rw [← hT1]
   clear hT1
   go_wp2_with fail
   refine (IH.down _).mono ?_
   rintro e w2 ⟨rfl, hb2⟩
   have HB2 := PLift.up (HB.down.trans (hb2.mono hsz))
   clear hb2
   have hpl : (ByteArray.mk (packF f (n / 128)).toArray).size ≤ f + 1 := by show (packF f (n / 128)).toArray.size ≤ f + 1; simpa using hl
   generalize ByteArray.mk (packF f (n / 128)).toArray = T at *
   clear hl
   go_wp2_with fail
   go_returns
   exact ⟨congrArg (fun s => Ending.returned (.string s)) HQ.down, HB2.down⟩
def bC (l : List UInt8) : List Value := l.map fun b => .int .u8 (b.toNat : Int)
theorem or128 (m : Nat) : bits .or .u8 ((m : Int) % 256) 128 = ((128 + m % 128 : Nat) : Int) := by
 rw [Lib.u8_or128_any _ (by omega) (by omega)]; omega
set_option maxHeartbeats 1000000 in
set_option maxRecDepth 20000 in
theorem put_any (n : Nat) (h : n < 18446744073709551616) (w : World) :
 Calls Tryz.prog 69 #[.int .u64 n] w fun e w' => e = .returned (.string (packS n)) ∧ Below w.heap.size w w' := by
 go_enter Tryz.func69, Tryz.ntmps69
 go_wp2_with fail
 go_loopw [0, 3] (fun mv v wr => ∃ (m f : Nat) (done : List UInt8), mv = .int .u64 m ∧ m < 18446744073709551616 ∧ Hid (m < 128 ^ (f + 1) ∧ done ++ packF f m = packB n ∧ done.length + f = 9 ∧ wr.ownsRow w.heap.size 5 1 v done.length (bC done) ∧ Below w.heap.size w wr)) (fun mv _ _ => (intOf mv).toNat)
 case atStart => exact ⟨n, 9, [], rfl, h, by simpa using Nat.lt_of_lt_of_le h (by decide), rfl, rfl, ⟨by simp [bC], .inl ⟨rfl, rfl⟩⟩, Below.refl _ _⟩
 case round =>
  obtain ⟨m, f, done, rfl, hm, hI⟩ := hrel
  have hor := or128 m
  have hdl : done.length ≤ 9 := by have := hI.out.2.2.1; omega
  have hB := hI.out.2.2.2.2.size
  by_cases h8 : 128 ≤ m
  ·obtain ⟨f, rfl⟩ : ∃ f', f = f' + 1 := by
    cases f with
    | zero => have := hI.out.1; simp at this; omega
    | succ f => exact ⟨f, rfl⟩
   have HI := PLift.up hI.out
   clear hI
   go_wp2_with (at_builtin; refine wpApp _ rfl _ _ _ rfl w.heap.size _ _ _ elT_u8 _ done.length (bC done) rfl (HI.down.2.2.2.1.alloc _) (some ⟨wr.heap.size, 0, none⟩) 1 1 [.int .u8 ((128 + m % 128 : Nat) : Int)] rfl ?_ ?_ ?_ ?_ ?_ ?_ ?_ ?_)
   ·rfl
   ·simp
   ·intro ad had j u hu
    obtain rfl := Option.some.inj had
    match j, hu with
    | 0, hu => simp at hu; subst hu; simp [Addr.add_lit, go_sem]
    | j + 1, hu => simp at hu
   ·simp [Value.oneCell']
   ·simp only [maxLen]; omega
   ·omega
   ·simp; omega
   ·intro v' w2 hown hg _
    have hbb : Below w.heap.size w w2 := (HI.down.2.2.2.2.alloc (by omega) _).grown hg (by simp; omega) (fun q hq => (HI.down.2.2.2.1.lt q hq).1)
    have HO := PLift.up hown
    have HBB := PLift.up hbb
    clear hown hbb hg
    go_wp2_with fail
    go_roundw
    case rel =>
     have hp : packF (f + 1) m = UInt8.ofNat (128 + m % 128) :: packF f (m / 128) := by simp [packF]; omega
     refine ⟨m / 128, f, done ++ [UInt8.ofNat (128 + m % 128)], ?_, by omega, ?_, ?_, ?_, ?_, HBB.down⟩
     ·simp
     ·have := HI.down.1; rw [Nat.pow_succ] at this; exact Nat.div_lt_of_lt_mul (by omega)
     ·have := HI.down.2.1; rw [hp] at this; simpa using this
     ·have := HI.down.2.2.1; simp; omega
     ·have := HO.down
      have e : bC (done ++ [UInt8.ofNat (128 + m % 128)]) = bC done ++ [.int .u8 ((128 + m % 128 : Nat) : Int)] := by
       simp only [bC, List.map_append, List.map_cons, List.map_nil]
       rw [u8_ofNat_toNat _ (by omega)]
      rw [e]; simpa using this
    case measure => simp [intOf]; omega
  ·have HI := PLift.up hI.out
   clear hI
   go_wp2_with (at_builtin; refine wpApp _ rfl _ _ _ rfl w.heap.size _ _ _ elT_u8 _ done.length (bC done) rfl (HI.down.2.2.2.1.alloc _) (some ⟨wr.heap.size, 0, none⟩) 1 1 [.int .u8 (m : Int)] rfl ?_ ?_ ?_ ?_ ?_ ?_ ?_ ?_)
   ·rfl
   ·simp
   ·intro ad had j u hu
    obtain rfl := Option.some.inj had
    match j, hu with
    | 0, hu => simp at hu; subst hu; simp [Addr.add_lit, go_sem]
    | j + 1, hu => simp at hu
   ·simp [Value.oneCell']
   ·simp only [maxLen]; omega
   ·omega
   ·simp; omega
   ·intro v' w2 hown hg _
    have hbb : Below w.heap.size w w2 := (HI.down.2.2.2.2.alloc (by omega) _).grown hg (by simp; omega) (fun q hq => (HI.down.2.2.2.1.lt q hq).1)
    have hfin : done ++ [UInt8.ofNat m] = packB n := by have := HI.down.2.1; rw [packF_small f m (by omega)] at this; exact this
    have e : bC done ++ [.int .u8 (m : Int)] = bC (packB n) := by
     rw [← hfin]
     simp only [bC, List.map_append, List.map_cons, List.map_nil]
     rw [u8_ofNat_toNat _ (by omega)]
    have hlen : done.length + 1 = (packB n).length := by rw [← hfin]; simp
    rw [e, hlen] at hown
    rcases hown.2 with ⟨_, h0⟩ | ⟨g, cap, cur, rfl, _, hgc, _⟩
    ·omega
    have hcell := hown.cells (g := g) rfl
    have hcv := run_convert_bytes_back (P := Tryz.prog) w2 74 9 5 ⟨g, 0, none⟩ cap (packB n) Tryz.underlying74 Tryz.underlying5 Tryz.underlying9 (by
     intro j hj
     exact hcell j _ (by simp only [bC, List.getElem?_map, List.getElem?_eq_getElem hj, Option.map_some]))
    have HBB := PLift.up hbb
    clear hown hbb hg hcell e hfin HI hgc
    generalize hq : (packB n).length = q at *
    clear hlen hdl hB
    go_wp2_with fail
    go_returns
    exact ⟨rfl, HBB.down⟩
set_option maxHeartbeats 800000 in
theorem sealed_any (s : ByteArray) (w : World) (hs : s.size ≤ 140737488351232) :
 Calls Tryz.prog 30 #[.string s] w fun e w' => e = .returned (.string (sealS s)) ∧ Below w.heap.size w w' := by
 have hS : sealS s = s ++ ⟨(sealB (crcM 0 s.data.toList)).toArray⟩ := rfl
 have hl := crcM_lt 0 s.data.toList
 go_enter Tryz.func30, Tryz.ntmps30
 go_wp2_with fail
 refine (crcMore_any 0 s w (by decide) hs).mono ?_
 rintro e w1 ⟨rfl, hb1⟩
 generalize crcM 0 s.data.toList = n at *
 have HS := Lib.hid hS; clear hS
 have HB := Lib.hid hb1; clear hb1
 go_wp2_with fail
 refine (bytes_any _ _ (w1.heap.size + 1) [n % 256, n / 256 % 256, n / 65536 % 256, n / 16777216 % 256] _ (by simp) ?_ (by simp) ?_).mono ?_
 ·refine .inr ⟨w1.heap.size, 0, rfl, by omega, fun i j v hv => ?_⟩
  match i, j, hv with
  | 0, 0, hv => simp [ei64] at hv; subst hv; simp [go_sem]
  | 1, 0, hv => simp [ei64] at hv; subst hv; simp [go_sem]
  | 2, 0, hv => simp [ei64] at hv; subst hv; simp [go_sem]
  | 3, 0, hv => simp [ei64] at hv; subst hv; simp [go_sem]; omega
  | 0, j + 1, hv => simp [ei64] at hv
  | 1, j + 1, hv => simp [ei64] at hv
  | 2, j + 1, hv => simp [ei64] at hv
  | 3, j + 1, hv => simp [ei64] at hv
  | i + 4, j, hv => simp at hv
 ·intro x hx; simp at hx; rcases hx with rfl | rfl | rfl | rfl <;> omega
 rintro e w2 ⟨rfl, hb2⟩
 have HB2 := Lib.hid hb2; clear hb2
 have hsz : (ByteArray.mk (sealB n).toArray).size = 4 := rfl
 have hT : ByteArray.mk (List.map UInt8.ofNat [n % 256, n / 256 % 256, n / 65536 % 256, n / 16777216 % 256]).toArray = ByteArray.mk (sealB n).toArray := rfl
 rw [hT]
 generalize ByteArray.mk (sealB n).toArray = T at *
 clear hT
 go_wp2_with fail
 go_ret
 refine ⟨congrArg Ending.returned (congrArg Value.string HS.out.symm), ?_⟩
 exact HB.out.trans (((below_lit w1 _).trans (HB2.out.mono (by simp))).mono HB.out.size)
def vals (l : List UInt8) : Nat := l.foldr (fun b a => b.toNat % 128 + 128 * a) 0
def valT (s : ByteArray) (i : Nat) : Nat := vals (s.data.toList.take i) % 18446744073709551616
def getR (s : ByteArray) : Nat × ByteArray × Int :=
 match s.data.toList.findIdx? (fun b => b < 128) with
 | some i => if i < 10 ∧ packS (valT s (i + 1)) = s.extract 0 (i + 1) then (valT s (i + 1), s.extract (i + 1) s.size, 0) else (0, ⟨#[]⟩, 4)
 | none => (0, ⟨#[]⟩, if s.size < 10 then 3 else 4)
structure Ends (s : ByteArray) (e : Nat) (r : Nat × ByteArray × Int) : Prop where
 le : e ≤ s.size
 big : ∀ j (hj : j < s.size), j < e → 128 ≤ s[j].toNat
 small : ∀ (h : e < s.size), s[e].toNat < 128
 res : getR s = r
theorem packedS_any (n : Nat) (w : World) (h : n < 18446744073709551616) :
 Calls Tryz.prog 28 #[.int .u64 n] w fun e w' => e = .returned (.string (packS n)) ∧ Below w.heap.size w w' := packed_any 9 (Nat.le_refl _) n w h (Nat.lt_of_lt_of_le h (by decide))
theorem bldSize : (Tryz.prog.info? 117).map (·.size) = some 2 := by kernel_rfl
set_option maxHeartbeats 1000000 in
set_option maxRecDepth 100000 in
theorem bld_check_used (b : Nat) (w : World) (h0 : w.cell? ⟨b, 0, none⟩ = some (.pointer (some ⟨b, 0, none⟩))) :
 Calls Tryz.prog 103 #[.pointer (some ⟨b, 0, none⟩)] w fun e w' => e = .returned (.tuple #[]) ∧ w' = w := by
 obtain ⟨j, hj, _⟩ := Option.map_eq_some_iff.1 bldSize
 go_enter Tryz.func103, Tryz.ntmps103
 go_wp2
 rw [Lib.run_neq_ptr_same w _ Tryz.underlying115 hj]
 go_wp2
 go_end0
 exact ⟨rfl, rfl⟩
set_option maxHeartbeats 1000000 in
set_option maxRecDepth 100000 in
theorem bld_check_fresh (b : Nat) (w : World) (h0 : w.cell? ⟨b, 0, none⟩ = some (.pointer none)) (hsh : w.shape? b = some (117, 2)) (hfz : w.frozen? ⟨b, 0, none⟩ = false) :
 Calls Tryz.prog 103 #[.pointer (some ⟨b, 0, none⟩)] w fun e w' => e = .returned (.tuple #[]) ∧ w' = w.setCell ⟨b, 0, none⟩ (.pointer (some ⟨b, 0, none⟩)) := by
 obtain ⟨j, hj, hjs⟩ := Option.map_eq_some_iff.1 bldSize
 go_enter Tryz.func103, Tryz.ntmps103
 go_wp2
 rw [Lib.run_to_unsafe w ⟨b, 0, none⟩ Tryz.underlying115 Tryz.underlying189 hj (by rw [hjs]; decide) hsh (Nat.zero_lt_succ 1)]
 simp only [Result.andThen]
 rw [Oper.upon_value]
 go_wp2
 rw [run_callFunc_extern Tryz.func135 (by kernel_rfl) (by kernel_rfl) (by kernel_rfl) (e := Extern.AbiNoEscape.same) (by kernel_rfl)]
 rw [Lib.run_noEscape]
 simp only [Result.andThen]
 rw [Oper.upon_value]
 go_wp2
 rw [Lib.run_from_unsafe w ⟨b, 0, none⟩ Tryz.underlying189 Tryz.underlying115 hj hsh (by kernel_rfl)]
 simp only [Result.andThen]
 rw [Oper.upon_value]
 go_wp2
 go_end0
 exact ⟨rfl, rfl⟩
theorem bld_check (B b : Nat) (bs : List Value) (w : World) (h : Lib.IsBuilder 117 5 B b bs w) :
 Calls Tryz.prog 103 #[.pointer (some ⟨b, 0, none⟩)] w fun e w' => e = .returned (.tuple #[]) ∧ (Lib.BuilderAt 117 5 B b (.pointer (some ⟨b, 0, none⟩)) bs w' ∧ Below B w w') := by
 rcases h with h | h
 ·refine (bld_check_fresh b w h.cell0 h.shape h.frozen0).mono ?_
  rintro e w' ⟨rfl, rfl⟩
  exact ⟨rfl, h.used _, (Below.refl B w).setCell (p := ⟨b, 0, none⟩) h.1 _⟩
 ·refine (bld_check_used b w h.cell0).mono ?_
  rintro e w' ⟨rfl, rfl⟩
  exact ⟨rfl, h, Below.refl B _⟩
set_option maxHeartbeats 2000000 in
set_option maxRecDepth 100000 in
theorem bld_write (B b : Nat) (bs : List Value) (s : ByteArray) (w : World) (h : Lib.IsBuilder 117 5 B b bs w) (hlen : bs.length + s.size ≤ 140737488355328) (hBw : B ≤ w.heap.size) :
 Calls Tryz.prog 68 #[.pointer (some ⟨b, 0, none⟩), .string s] w fun e w' => e = .returned (.tuple #[.int .i64 s.size, .nilIface]) ∧ (Lib.BuilderAt 117 5 B b (.pointer (some ⟨b, 0, none⟩)) (bs ++ Lib.strCells s) w' ∧ Below B w w') := by
 obtain ⟨i0, hi, hz0, hz1, hz2⟩ := info_parts (show (Tryz.prog.info? 5).map (fun i => (i.zero, i.size, i.bytes)) = some (some (.int .u8 0), 1, 1) by kernel_rfl)
 go_enter Tryz.func68, Tryz.ntmps68
 go_wp2_with (go_at_call 103; refine (bld_check B b bs _ h).mono ?_)
 rintro e w1 ⟨rfl, h1, hb1⟩
 obtain ⟨hB, v, hbk, hown, hne⟩ := h1
 have c0 : w1.cell? ⟨b, 0, none⟩ = some (.pointer (some ⟨b, 0, none⟩)) := by rw [Lib.cell_of_heap hbk]; rfl
 have c1 : w1.cell? ⟨b, 1, none⟩ = some v := by rw [Lib.cell_of_heap hbk]; rfl
 go_wp2_with (at_builtin; refine Lib.wpList_append_own_string _ rfl _ _ 74 9 rfl B 5 i0 Tryz.underlying74 Tryz.underlying9 hi hz0 hz1 hz2 _ _ _ rfl hown s rfl ?c3 ?c4 ?c5 ?_)
 case c3 => unfold maxLen; omega
 case c4 => omega
 case c5 => have := hb1.size; omega
 intro v' w2 hown' hgrow _
 have hlt : b < w1.heap.size := by
  rcases Nat.lt_or_ge b w1.heap.size with h' | h'
  ·exact h'
  ·simp [Array.getElem?_eq_none h'] at hbk
 have hb2 : w2.heap[b]? = some (.cells #[.pointer (some ⟨b, 0, none⟩), v] 117 (0, 0)) := by
  rw [hgrow.block b hlt (fun e => hne e.symm)]
  exact hbk
 have d0 : w2.cell? ⟨b, 0, none⟩ = some (.pointer (some ⟨b, 0, none⟩)) := by rw [Lib.cell_of_heap hb2]; rfl
 have d1 : w2.cell? ⟨b, 1, none⟩ = some v := by rw [Lib.cell_of_heap hb2]; rfl
 have f1 : w2.frozen? ⟨b, 1, none⟩ = false := Lib.frozen_of_heap hb2 1
 obtain ⟨ao, n', cap, rfl⟩ : ∃ ao n' cap, v' = .slice ao n' cap := by
  rcases hown'.2 with ⟨hv, _⟩ | ⟨g, cap, cur, hv, _⟩
  ·exact ⟨_, _, _, hv⟩
  ·exact ⟨_, _, _, hv⟩
 go_wp2
 go_ret2
 refine ⟨rfl, ?_, ?_⟩
 ·exact Lib.BuilderAt.put (T := 117) (e := 5) hB hb2 (bs' := bs ++ Lib.strCells s) (by simpa [Lib.strCells_length] using hown') (by decide)
 ·exact (hb1.grown hgrow (by have := hb1.size; omega) (fun k hk => (hown.lt k hk).1)).setCell (p := ⟨b, 1, none⟩) hB _
theorem bld_keep {w w' : World} {B b : Nat} {bs : List Value} (h : Lib.IsBuilder 117 5 B b bs w) (hb : Below w.heap.size w w') : Lib.IsBuilder 117 5 B b bs w' := by
 have key : ∀ p, Lib.BuilderAt 117 5 B b p bs w → Lib.BuilderAt 117 5 B b p bs w' := by
  rintro p ⟨h1, v, h2, ho, h3⟩
  refine ⟨h1, v, (hb.block b (Array.getElem?_eq_some_iff.1 h2).1).trans h2, ?_, h3⟩
  refine ⟨ho.1, ?_⟩
  rcases ho.2 with ⟨g1, g2⟩ | ⟨g, cap, cur, g1, g2, g3, g4⟩
  ·exact .inl ⟨g1, g2⟩
  ·exact .inr ⟨g, cap, cur, g1, g2, (hb.block g (Array.getElem?_eq_some_iff.1 g3).1).trans g3, g4⟩
 exact h.imp (key _) (key _)
def paN (n : Int) : List UInt8 := packB (foldN n)
def paK (xs : List Int) (k : Nat) : List UInt8 := packB xs.length ++ (xs.take k).flatMap paN
def paR (xs : List Int) : ByteArray × Int := if 1000 < xs.length then (⟨#[]⟩, 2) else (⟨(paK xs xs.length).toArray⟩, 0)
theorem packB_len (n : Nat) : (packB n).length ≤ 10 := (packF_len 9 n).2
theorem paK_len (xs : List Int) (k : Nat) : (paK xs k).length ≤ 10 + 10 * k := by
 unfold paK
 rw [List.length_append]
 have h1 := packB_len xs.length
 have h2 : ∀ l : List Int, (l.flatMap paN).length ≤ 10 * l.length := by
  intro l
  induction l with
  | nil => simp
  | cons x l ih =>
   have := packB_len (foldN x)
   have e : paN x = packB (foldN x) := rfl
   rw [List.flatMap_cons, List.length_append, List.length_cons, e]; omega
 have h3 := h2 (xs.take k)
 have h4 : (xs.take k).length ≤ k := List.length_take_le _ _
 omega
theorem paK_succ (xs : List Int) (k : Nat) (h : k < xs.length) : paK xs (k + 1) = paK xs k ++ packB (foldN xs[k]) := by
 unfold paK
 rw [take_snoc' xs k h, List.flatMap_append, List.append_assoc]; simp [paN]
set_option maxHeartbeats 2000000 in
set_option maxRecDepth 20000 in
theorem packedAll_any (a : Option Addr) (c B : Nat) (xs : List Int) (w : World) (hE : Els w B a 1 ei64 xs) (hx : ∀ x ∈ xs, I64 x) (hl : xs.length ≤ 140737488351232) (hB : B ≤ w.heap.size) :
 Calls Tryz.prog 75 #[.slice a xs.length c] w fun e w' => e = .returned (.tuple #[.string (paR xs).1, .int .i64 (paR xs).2]) ∧ Below w.heap.size w w' := by
 have HE := PLift.up hE
 have HX := PLift.up hx
 clear hE hx
 by_cases hn : 1000 < xs.length
 ·rw [show paR xs = (⟨#[]⟩, 2) from if_pos hn]
  go_enter Tryz.func75, Tryz.ntmps75
  go_wp2_with fail
  go_returns
  exact ⟨rfl, Below.refl _ _⟩
 ·rw [show paR xs = (⟨(paK xs xs.length).toArray⟩, 0) from if_neg hn]
  go_enter Tryz.func75, Tryz.ntmps75
  go_wp2_with fail
  refine (packedS_any xs.length _ (by omega)).mono ?_
  rintro e w1 ⟨rfl, hb1⟩
  have HB1 := PLift.up hb1
  clear hb1
  have hp0 : packS xs.length = ⟨(paK xs 0).toArray⟩ := by simp [paK, packS]
  rw [hp0]
  clear hp0
  go_wp2_with fail
  go_loopw [4, 16] (fun ov iv wr => ∃ (k : Nat) (T : ByteArray), k ≤ xs.length ∧ iv = .int .i64 k ∧ ov = .string T ∧ T.size ≤ 10 + 10 * k ∧ Hid (T = ⟨(paK xs k).toArray⟩ ∧ Below w.heap.size w wr)) (fun _ iv _ => xs.length - (intOf iv).toNat)
  case atStart => exact ⟨0, _, by omega, rfl, rfl, by rw [bs_size]; exact paK_len xs 0, rfl, HB1.down⟩
  case round =>
   obtain ⟨k, T, hk, rfl, rfl, hT, hI⟩ := hrel
   have hBw := hI.out.2.size
   by_cases hlt : k < xs.length
   ·obtain ⟨b, o, rfl, hb, hc⟩ := (HE.down.below hI.out.2 hB).i64 k hlt
    have hxk := HX.down xs[k] (List.getElem_mem hlt)
    have hs := paK_succ xs k hlt
    generalize xs[k] = x at *
    have hf := foldN_lt x hxk
    have hps := packS_size (foldN x)
    have HS : PLift (T ++ packS (foldN x) = ⟨(paK xs (k + 1)).toArray⟩) := PLift.up (by rw [hI.out.1, hs]; exact bs_append _ _)
    have F := PLift.up (folded_any x hxk)
    have Q := PLift.up (fun w => packedS_any (foldN x) w hf)
    generalize foldN x = y at *
    generalize packS y = Y at *
    have HI := PLift.up hI.out.2
    clear hI hs hxk
    go_wp2_with fail
    refine (F.down _).mono ?_
    rintro e w2 ⟨rfl, rfl⟩
    go_wp2_with fail
    refine (Q.down _).mono ?_
    rintro e w2 ⟨rfl, hb2⟩
    have HB2 := PLift.up (HI.down.trans (hb2.mono hBw))
    clear hb2
    go_wp2_with fail
    go_roundw
    case rel => exact ⟨k + 1, _, by omega, by go_num, rfl, by rw [ByteArray.size_append]; omega, HS.down, HB2.down⟩
    case measure => simp [intOf]; omega
   ·obtain rfl : k = xs.length := by omega
    have HI := PLift.up hI.out
    clear hI
    go_wp2_with fail
    go_returns
    refine ⟨?_, HI.down.2⟩
    rw [← HI.down.1]; rfl
set_option maxHeartbeats 2000000 in
set_option maxRecDepth 20000 in
theorem putAll_any (a : Option Addr) (c B : Nat) (xs : List Int) (w : World) (hE : Els w B a 1 ei64 xs) (hx : ∀ x ∈ xs, I64 x) (hl : xs.length ≤ 140737488351232) (hB : B ≤ w.heap.size) :
 Calls Tryz.prog 39 #[.slice a xs.length c] w fun e w' => e = .returned (.tuple #[.string (paR xs).1, .int .i64 (paR xs).2]) ∧ Below w.heap.size w w' := by
 have HE := PLift.up hE
 have HX := PLift.up hx
 clear hE hx
 by_cases hn : 1000 < xs.length
 ·rw [show paR xs = (⟨#[]⟩, 2) from if_pos hn]
  go_enter Tryz.func39, Tryz.ntmps39
  go_wp2_with fail
  go_returns
  exact ⟨rfl, Below.refl _ _⟩
 ·rw [show paR xs = (⟨(paK xs xs.length).toArray⟩, 0) from if_neg hn]
  go_enter Tryz.func39, Tryz.ntmps39
  go_wp2_with fail
  refine (put_any xs.length (by omega) _).mono ?_
  rintro e w1 ⟨rfl, hb1⟩
  have BL : PLift (Lib.IsBuilder 117 5 w.heap.size w.heap.size [] w1) := PLift.up (bld_keep (Lib.fresh_isBuilder 117 5 w) hb1)
  have HB1 : PLift (Below w.heap.size w w1) := PLift.up ((below_lit w _).trans (hb1.mono (by simp)))
  have hs1 := HB1.down.size
  clear hb1
  have hp0 : packS xs.length = ⟨(paK xs 0).toArray⟩ := by simp [paK, packS]
  rw [hp0]
  clear hp0
  go_wp2_with fail
  refine (bld_write w.heap.size w.heap.size [] _ w1 BL.down (by rw [bs_size]; have := paK_len xs 0; simp; omega) hs1).mono ?_
  rintro e w2 ⟨rfl, hw2, hb2⟩
  have BL2 : PLift (Lib.IsBuilder 117 5 w.heap.size w.heap.size (Lib.byteCells (paK xs 0)) w2) := PLift.up (.inr hw2)
  have HB2 := PLift.up (HB1.down.trans hb2)
  clear hw2 hb2 BL HB1 hs1
  go_wp2_with fail
  go_loopw [17] (fun iv wr => ∃ (k : Nat), k ≤ xs.length ∧ iv = .int .i64 k ∧ Hid (Lib.IsBuilder 117 5 w.heap.size w.heap.size (Lib.byteCells (paK xs k)) wr ∧ Below w.heap.size w wr)) (fun iv _ => xs.length - (intOf iv).toNat)
  case atStart => exact ⟨0, by omega, rfl, BL2.down, HB2.down⟩
  case round =>
   obtain ⟨k, hk, rfl, hI⟩ := hrel
   have hBw := hI.out.2.size
   by_cases hlt : k < xs.length
   ·obtain ⟨b, o, rfl, hb, hc⟩ := (HE.down.below hI.out.2 hB).i64 k hlt
    have hxk := HX.down xs[k] (List.getElem_mem hlt)
    have hs := paK_succ xs k hlt
    have hkl := paK_len xs k
    generalize xs[k] = x at *
    have hf := foldN_lt x hxk
    have hps := packS_size (foldN x)
    have F := PLift.up (fold_any x hxk)
    have Q := PLift.up (fun w => put_any (foldN x) hf w)
    have HS : PLift (Lib.byteCells (paK xs k) ++ Lib.strCells (packS (foldN x)) = Lib.byteCells (paK xs (k + 1))) := PLift.up (by rw [hs]; simp [Lib.byteCells, Lib.strCells, packS])
    generalize foldN x = y at *
    generalize packS y = Y at *
    have HI := PLift.up hI.out
    clear hI hs hxk
    go_wp2_with fail
    refine (F.down _).mono ?_
    rintro e w2 ⟨rfl, rfl⟩
    go_wp2_with fail
    refine (Q.down _).mono ?_
    rintro e w2 ⟨rfl, hb2⟩
    have BL3 := PLift.up (bld_keep HI.down.1 hb2)
    have HB3 := PLift.up (HI.down.2.trans (hb2.mono hBw))
    have hBw3 := HB3.down.size
    clear hb2
    go_wp2_with fail
    refine (bld_write w.heap.size w.heap.size _ _ w2 BL3.down (by simp [Lib.byteCells]; omega) hBw3).mono ?_
    rintro e w3 ⟨rfl, hw3, hb3⟩
    have HB4 := PLift.up (HB3.down.trans hb3)
    have HW3 := PLift.up hw3
    clear hw3 hb3
    go_wp2_with fail
    go_roundw
    case rel => exact ⟨k + 1, by omega, by go_num, by rw [← HS.down]; exact .inr HW3.down, HB4.down⟩
    case measure => simp [intOf]; omega
   ·obtain rfl : k = xs.length := by omega
    have HI := PLift.up hI.out
    clear hI
    go_wp2_with fail
    refine (Tryz.Builder_String_any w.heap.size w.heap.size (paK xs xs.length) wr HI.down.1 hBw).mono ?_
    rintro e w2 ⟨rfl, hb2⟩
    have HB2 := PLift.up (HI.down.2.trans hb2)
    clear hb2
    go_wp2_with fail
    go_returns
    exact ⟨rfl, HB2.down⟩
def mk (m : Nat) (xs : List Nat) : Nat := xs.foldl (fun m n => m ^^^ mx n) m
theorem mk_lt (xs : List Nat) : ∀ m, m < 18446744073709551616 → mk m xs < 18446744073709551616 := by
 induction xs with
 | nil => intro m h; exact h
 | cons x xs ih => intro m h; exact ih _ (xorN_lt _ _ h (mx_lt x))
theorem mk_snoc (m : Nat) (xs : List Nat) (x : Nat) : mk m (xs ++ [x]) = mk m xs ^^^ mx x := by simp [mk]
structure U64s where
 a : Option Addr
 c : Nat
 xs : List Nat
def U64s.val (u : U64s) : Value := .slice u.a u.xs.length u.c
def U64s.enc (u : U64s) : List Value := [u.val]
theorem mk_xor (m : Nat) (xs : List Nat) : mk m xs = m ^^^ mk 0 xs := by
 induction xs generalizing m with
 | nil => simp [mk]
 | cons x xs ih =>
  show mk (m ^^^ mx x) xs = m ^^^ mk (0 ^^^ mx x) xs
  rw [ih, ih (0 ^^^ mx x), Nat.zero_xor, Nat.xor_assoc]
theorem mk_cons (x : Nat) (xs : List Nat) : mk 0 (x :: xs) = mx x ^^^ mk 0 xs := by
 show mk (0 ^^^ mx x) xs = _
 rw [mk_xor, Nat.zero_xor]
def frst (l : List Nat) (i : Nat) : Bool := decide (∀ j, j < i → l.getD j 0 ≠ l.getD i 0)
def oddAt (l : List Nat) (i : Nat) : Bool := (l.count (l.getD i 0)) % 2 == 1
def moTo (l : List Nat) : Nat → Nat
 | 0 => 0
 | i + 1 => if frst l i && oddAt l i then moTo l i ^^^ mx (l.getD i 0) else moTo l i
theorem moTo_succ (l : List Nat) (i : Nat) : moTo l (i + 1) = if frst l i && oddAt l i then moTo l i ^^^ mx (l.getD i 0) else moTo l i := rfl
theorem moTo_lt (l : List Nat) : ∀ i, moTo l i < 18446744073709551616 := by
 intro i
 induction i with
 | zero => show (0 : Nat) < _; decide
 | succ i ih => rw [moTo_succ]; split; exact xorN_lt _ _ ih (mx_lt _); exact ih
theorem mk_filter_part (p : Nat → Bool) (n : Nat) (hp : p n = true) (l : List Nat) :
 mk 0 (l.filter p) = mk 0 (l.filter fun x => p x && x != n) ^^^ (if l.count n % 2 == 1 then mx n else 0) := by
 induction l with
 | nil => simp [mk]
 | cons x l ih =>
  by_cases hx : x = n
  ·subst hx
   simp only [List.filter_cons, hp, if_true, bne_self_eq_false, Bool.and_false, Bool.false_eq_true, if_false, List.count_cons_self, mk_cons, ih]
   rcases Nat.mod_two_eq_zero_or_one (l.count x) with h | h
   ·have h2 : (l.count x + 1) % 2 = 1 := by omega
    simp [h, h2, Nat.xor_comm]
   ·have h2 : (l.count x + 1) % 2 = 0 := by omega
    simp only [h, h2, beq_self_eq_true, if_true]
    rw [Nat.xor_comm (mk 0 _), ← Nat.xor_assoc, Nat.xor_self]; simp
  ·have hb : (x != n) = true := by simpa using hx
   have hc : (x :: l).count n = l.count n := List.count_cons_of_ne hx
   rw [hc]
   by_cases hpx : p x = true
   ·simp only [List.filter_cons, hpx, hb, Bool.and_self, if_true, mk_cons, ih, Nat.xor_assoc]
   ·have hpf : p x = false := by simpa using hpx
    simp only [List.filter_cons, hpf, Bool.false_and, Bool.false_eq_true, if_false, ih]
def unseen (l : List Nat) (i : Nat) (x : Nat) : Bool := !((l.take i).contains x)
theorem moTo_eq (l : List Nat) : ∀ i, i ≤ l.length → mk 0 l = moTo l i ^^^ mk 0 (l.filter (unseen l i)) := by
 intro i
 induction i with
 | zero =>
  intro _
  have : l.filter (unseen l 0) = l := List.filter_eq_self.2 (fun x _ => by simp [unseen])
  rw [this]; simp [moTo]
 | succ i ih =>
  intro hi
  rw [ih (by omega)]
  have hlt : i < l.length := by omega
  have hg : l.getD i 0 = l[i] := by simp [List.getD, hlt]
  have hun : ∀ x, unseen l (i + 1) x = (unseen l i x && x != l[i]) := by
   intro x
   unfold unseen
   rw [take_snoc' l i hlt]
   by_cases hx : x = l[i] <;> simp [hx, -List.take_append_getElem]
  have hfun : (unseen l (i + 1)) = fun x => unseen l i x && x != l[i] := funext hun
  by_cases hs : unseen l i l[i] = true
  ·have hf : frst l i = true := by
    simp only [frst, decide_eq_true_eq, hg]
    intro j hj he
    simp only [unseen, Bool.not_eq_true'] at hs
    have : l[i] ∈ l.take i := by
     have hjl : j < l.length := by omega
     have e2 : l.getD j 0 = l[j] := by simp [List.getD, hjl]
     rw [e2] at he
     rw [← he]
     exact List.mem_take_iff_getElem.2 ⟨j, by omega, rfl⟩
    simp [this] at hs
   rw [mk_filter_part (unseen l i) l[i] hs l, hfun]
   rw [moTo_succ]
   simp only [hf, Bool.true_and, oddAt, hg]
   by_cases ho : (l.count l[i] % 2 == 1) = true
   ·simp only [ho, if_true]
    rw [Nat.xor_assoc (moTo l i) (mx l[i]), Nat.xor_comm (mx l[i])]
   ·simp only [ho, if_false, Bool.false_eq_true]; simp
  ·have hf : frst l i = false := by
    simp only [frst, decide_eq_false_iff_not, hg]
    intro hall
    apply hs
    simp only [unseen, Bool.not_eq_true']
    cases hc : (l.take i).contains l[i] with
    | false => rfl
    | true =>
     have hm : l[i] ∈ l.take i := by simpa using hc
     obtain ⟨j, hj, he⟩ := List.mem_take_iff_getElem.1 hm
     have e2 : l.getD j 0 = l[j] := by simp [List.getD, show j < l.length by omega]
     exact absurd (e2.trans he) (hall j (by omega))
   have hsf : unseen l i l[i] = false := by simpa using hs
   have hfil : l.filter (unseen l (i + 1)) = l.filter (unseen l i) := by
    rw [hfun]
    apply List.filter_congr
    intro x _
    by_cases hx : x = l[i]
    ·simp [hx, hsf]
    ·simp [hx]
   rw [moTo_succ]
   simp [hf, hfil]
theorem moTo_mk (l : List Nat) : moTo l l.length = mk 0 l := by
 rw [moTo_eq l l.length (Nat.le_refl _)]
 have : l.filter (unseen l l.length) = [] := List.filter_eq_nil_iff.2 (fun x hx => by simp [unseen, hx])
 rw [this]; simp [mk]
def cnt (l : List Nat) (i k : Nat) : Nat := (l.take k).count (l.getD i 0)
def fst' (l : List Nat) (i k : Nat) : Bool := decide (∀ j, j < k → l.getD j 0 = l.getD i 0 → i ≤ j)
theorem cnt_le (l : List Nat) (i k : Nat) : cnt l i k ≤ k := Nat.le_trans List.count_le_length (List.length_take_le _ _)
theorem cnt_hit (l : List Nat) (i k : Nat) (hk : k < l.length) (he : l[k] = l.getD i 0) : cnt l i (k + 1) = cnt l i k + 1 := by
 unfold cnt; rw [take_snoc' l k hk, List.count_append, he]; simp
theorem cnt_miss (l : List Nat) (i k : Nat) (hk : k < l.length) (he : l[k] ≠ l.getD i 0) : cnt l i (k + 1) = cnt l i k := by
 unfold cnt; rw [take_snoc' l k hk, List.count_append, List.count_singleton]; simp only [beq_iff_eq, he, if_false, Nat.add_zero]
theorem fst_hit (l : List Nat) (i k : Nat) (hk : k < l.length) (he : l[k] = l.getD i 0) : fst' l i (k + 1) = (fst' l i k && decide (i ≤ k)) := by
 have e2 : l.getD k 0 = l[k] := by simp [List.getD, hk]
 rw [Bool.eq_iff_iff]
 simp only [fst', decide_eq_true_eq, Bool.and_eq_true]
 constructor
 ·intro h
  exact ⟨fun j hj => h j (by omega), h k (by omega) (e2.trans he)⟩
 ·rintro ⟨h, h2⟩ j hj h3
  rcases Nat.lt_succ_iff_lt_or_eq.1 hj with hl | rfl
  ·exact h j hl h3
  ·exact h2
theorem fst_miss (l : List Nat) (i k : Nat) (hk : k < l.length) (he : l[k] ≠ l.getD i 0) : fst' l i (k + 1) = fst' l i k := by
 have e2 : l.getD k 0 = l[k] := by simp [List.getD, hk]
 rw [Bool.eq_iff_iff]
 simp only [fst', decide_eq_true_eq]
 constructor
 ·intro h j hj; exact h j (by omega)
 ·intro h j hj h3
  rcases Nat.lt_succ_iff_lt_or_eq.1 hj with hl | rfl
  ·exact h j hl h3
  ·exact absurd (e2.symm.trans h3) he
theorem fst_end (l : List Nat) (i : Nat) (hi : i < l.length) : fst' l i l.length = frst l i := by
 rw [Bool.eq_iff_iff]
 simp only [fst', frst, decide_eq_true_eq]
 constructor
 ·intro h j hj he; have := h j (by omega) he; omega
 ·intro h j hj he
  rcases Nat.lt_or_ge j i with hl | hl
  ·exact absurd he (h j hl)
  ·exact hl
set_option maxHeartbeats 1000000 in
theorem markOf_any (a : Option Addr) (c B : Nat) (xs : List Nat) (w : World) (hm : xs.length ≤ 1000000) (hx : Els w B a 1 e64 xs) :
 Calls Tryz.prog 45 #[.slice a xs.length c] w fun e w' => e = .returned (.int .u64 (mk 0 xs : Nat)) ∧ w = w' := by
 have H := Lib.hid hx; clear hx
 rw [← moTo_mk]
 go_enter Tryz.func45, Tryz.ntmps45
 go_wp2_with fail
 go_loop [3, 12] (fun m i => ∃ k : Nat, k ≤ xs.length ∧ i = .int .i64 k ∧ m = .int .u64 (moTo xs k : Nat)) (fun _ i => xs.length - (intOf i).toNat)
 case atStart => exact ⟨0, by omega, rfl, rfl⟩
 case round =>
  obtain ⟨k, hk, rfl, rfl⟩ := hrel
  by_cases hlt : k < xs.length
  ·obtain ⟨b, o, rfl, hb, hc⟩ := H.out.u64 k hlt
   have hgd : xs.getD k 0 = xs[k] := by simp [List.getD, hlt]
   generalize hxk : xs[k] = x at hc hgd
   have HX := Lib.hid hxk; clear hxk
   have HG := Lib.hid hgd; clear hgd
   go_wp2_with fail
   go_loop [6, 7, 8, 9, 19] (fun t f _ _ j => ∃ q : Nat, q ≤ xs.length ∧ j = .int .i64 q ∧ t = .int .i64 (cnt xs k q : Nat) ∧ f = .bool (fst' xs k q)) (fun _ _ _ _ j => xs.length - (intOf j).toNat)
   case atStart => exact ⟨0, by omega, rfl, by simp [cnt], by simp [fst']⟩
   case round =>
    obtain ⟨q, hq, rfl, rfl, rfl⟩ := hrel
    have hcl := cnt_le xs k q
    by_cases hlt2 : q < xs.length
    ·obtain ⟨b2, o2, he2, hb2, hc2⟩ := H.out.u64 q hlt2
     have hpp : b = b2 ∧ o = o2 := by simpa using he2
     obtain ⟨rfl, rfl⟩ := hpp
     clear he2 hb2
     by_cases hxy : xs[q] = x
     ·have h1 := cnt_hit xs k q hlt2 (by rw [HG.out]; exact hxy)
      have h2 := fst_hit xs k q hlt2 (by rw [HG.out]; exact hxy)
      have H1 := Lib.hid h1; have H2 := Lib.hid h2
      clear h1 h2
      rw [hxy] at hc2
      have HXY := Lib.hid hxy; clear hxy
      cases hf : fst' xs k q with
      | false =>
       have HF := Lib.hid hf; clear hf
       go_wp2_with fail
       go_round
       case rel => exact ⟨q + 1, by omega, by go_num, by rw [H1.out]; go_num, by rw [H2.out, HF.out]; rfl⟩
       case measure => simp [intOf]; omega
      | true =>
       have HF := Lib.hid hf; clear hf
       go_wp2_with fail
       go_round
       case rel => exact ⟨q + 1, by omega, by go_num, by rw [H1.out]; go_num, by rw [H2.out, HF.out]; simp⟩
       case measure => simp [intOf]; omega
     ·have h1 := cnt_miss xs k q hlt2 (by rw [HG.out]; exact hxy)
      have h2 := fst_miss xs k q hlt2 (by rw [HG.out]; exact hxy)
      have hne : (((xs[q] : Nat) : Int) == (x : Int)) = false := by simp; omega
      have H1 := Lib.hid h1; have H2 := Lib.hid h2
      clear h1 h2
      have HXY := Lib.hid hxy; clear hxy
      go_wp2_with fail
      go_round
      case rel => exact ⟨q + 1, by omega, by go_num, by rw [H1.out], by rw [H2.out]⟩
      case measure => simp [intOf]; omega
    ·have hq2 : q = xs.length := by omega
     subst hq2
     have hfe := fst_end xs k hlt
     have hce : cnt xs k xs.length = xs.count x := by unfold cnt; rw [List.take_length, HG.out]
     have hst : moTo xs (k + 1) = if frst xs k && (xs.count x % 2 == 1) then moTo xs k ^^^ mx x else moTo xs k := by rw [moTo_succ, oddAt, HG.out]
     have hxo := xorN (moTo xs k) (mx x) (moTo_lt _ _) (mx_lt _)
     rw [hfe, hce]
     rw [hce] at hcl
     clear hfe hce hlt2
     have HST := Lib.hid hst; clear hst
     have HXO := Lib.hid hxo; clear hxo
     generalize frst xs k = f at *
     generalize xs.count x = C at *
     cases f with
     | false =>
      go_wp2_with fail
      go_round
      case rel => exact ⟨k + 1, by omega, by go_num, by rw [HST.out]; rfl⟩
      case measure => simp [intOf]; omega
     | true =>
      by_cases ho : C % 2 = 1
      ·have ho' : (((C : Nat) : Int) % 2 == 1) = true := by simp; omega
       have HS : moTo xs (k + 1) = moTo xs k ^^^ mx x := by rw [HST.out]; simp [ho]
       have HS := Lib.hid HS
       clear HST ho
       go_wp2_with (go_at_call 31; refine (mixed_any _ _).mono ?_; rintro e w' ⟨rfl, rfl⟩)
       go_round
       case rel => exact ⟨k + 1, by omega, by go_num, by rw [HS.out, HXO.out]⟩
       case measure => simp [intOf]; omega
      ·have ho' : (((C : Nat) : Int) % 2 == 1) = false := by simp; omega
       have HS : moTo xs (k + 1) = moTo xs k := by rw [HST.out]; simp [ho]
       have HS := Lib.hid HS
       clear HST ho
       go_wp2_with fail
       go_round
       case rel => exact ⟨k + 1, by omega, by go_num, by rw [HS.out]⟩
       case measure => simp [intOf]; omega
  ·have hke : k = xs.length := by omega
   go_wp2_with fail
   go_ret
   exact ⟨rfl, rfl⟩
end Go.Proofs.YtllmjdcblfkfaaaGreat
