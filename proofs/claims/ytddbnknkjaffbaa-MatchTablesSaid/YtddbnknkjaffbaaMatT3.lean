/- Lemmas for the proof of matchTables.proved. -/
import Derived.Test.YtddbnknkjaffbaaMatT2
import Derived.Test.YtddbnknkjaffbaaProg
import Derived.WalkKit
import Derived.Handy
import Derived.WalkSpells
import Derived.WalkLawsBesides
import Derived.Lib.Hide
import Derived.Lib.BitFns
import Derived.Laws.BitsAllLaws
import Derived.Laws.AppendOwnNone
import Derived.Lib.SliceRun
import Derived.Deep.Draws
import Derived.Deep.QuietTactic
import Derived.ProofKit
import Derived.OpenShut
import Derived.ShutString
import Derived.ChangeOld
import Derived.Below
import Derived.Deep.Slices
import Derived.Shelf.SlSortCmp.WholeK
import Derived.Shelf.Small.Bits
import Derived.Shelf.Small.Wraps
import Derived.Shelf.Strconv.Itoa0
import Derived.Ground.Names2Prog
import Derived.Shelf.Slices.SearchI
import Derived.StillTailTactics
import Derived.Shelf.Spec.SlicesInsert
import Derived.Shelf.Spec.SlicesInsertGrow
import Derived.Shelf.Slices.Delete
import Derived.KernelRfl
namespace Go.Proofs.Ytddbnknkjaffbaa
set_option linter.all false
open Go.RowKit
theorem spec_am {P : Program} {f : FuncId} {fn : Func} {c : Code} {args : List AV} {hs hs' : List Chunk} {r : AV} (hf : P.funcs[f]? = some fn) (hb : fn.body = some c) (hn : (fn.name == "runtime.NumGoroutine") = false) (hmix : P.follows .mixedOrders = true)
 (nt : Nat) (hnt : nt = args.length + (fn.ntmps - args.length)) (rs : List ResultVar) (hrs : fn.results = rs.toArray) (hle : hs.length ≤ hs'.length)
 (h : awp P nt hs.length c (RetQ P hs.length rs r hs') ⟨argsT 0 args, hsT 0 hs, hs.length⟩) : Spec P f args hs r hs' :=
 spec_of hf hb hn (fun _ _ _ _ _ _ _ _ id hx C => draw_run hmix id hx C) nt hnt rs hrs hle h
section
variable {k : Nat} {b : Bool} {X Y : (Exit → St → Prop) → St → Prop} {Q : Exit → St → Prop} {s : St}
theorem cond_i (h1 : b = true → X Q s) (h2 : b = false → Y Q s) : CondJ k (.c (.v (.bool b))) X Y Q s := .inl ⟨h1, h2⟩
end
theorem joinK_n {α : Type} {k : Nat} {S : α → St} {Pr : α → Prop} {Q : Exit → St → Prop} {s : St} : joinK k S Pr Q .normal s = ∃ y, Pr y ∧ ToK k s (S y) := rfl
theorem joinK_e {α : Type} {k : Nat} {S : α → St} {Pr : α → Prop} {Q : Exit → St → Prop} {s : St} {i : Nat} : joinK k S Pr Q (.exit i) s = Q (.exit i) s := rfl
theorem joinK_r {α : Type} {k : Nat} {S : α → St} {Pr : α → Prop} {Q : Exit → St → Prop} {s : St} : joinK k S Pr Q .ret s = Q .ret s := rfl
section
variable {P : Program} {f : FuncId} {args args' : List AV} {h : Nat → Chunk} {m : Nat} {K : Eff → Prop} {r : AV}
theorem callP (S : Spec P f args' [] r []) (hw : WkL (cvL [] noC args) args') (k : K ⟨up [] m r, [], 0⟩) : CallG P f args h m K :=
 ⟨_, .inl ⟨[], args', [], r, [], List.nodup_nil, hw, rfl, by simp, S, rfl⟩, k⟩
theorem callM {hs hs' : List Chunk} (ids : List Nat) (S : Spec P f args' hs r hs') (hw : WkL (cvL ids noC args) args') (hh : hs = ids.map (fun id => cvC ids noC (h id))) (hnd : ids.Nodup) (hal : ∀ id ∈ ids, h id ≠ .dead) (k : K ⟨up ids m r, upsL ids m 0 hs', hs'.length - ids.length⟩) : CallG P f args h m K :=
 ⟨_, .inl ⟨ids, args', hs, r, hs', hnd, hw, hh, hal, S, rfl⟩, k⟩
variable {c : Bool} {φ : Prop}
theorem gcallP (S : c = true → Spec P f args' [] r []) (hw : WkL (cvL [] noC args) args') (hφ : c = true → φ) (k : K ⟨.opt c (up [] m r), [], 0⟩) : GCall P c f args φ h m K :=
 .inl ⟨_, fun hc => ⟨hφ hc, .inl ⟨[], args', [], r, [], List.nodup_nil, hw, rfl, by simp, S hc, rfl⟩⟩, k⟩
end
def lpK {α : Type} (k : Nat) (S : α → St) (Pr : α → Prop) (μ : α → Nat) (x : α) (Q : Exit → St → Prop) : Exit → St → Prop := fun e s' => match e with
 | .normal => ∃ y, Pr y ∧ μ y < μ x ∧ ToK k s' (S y)
 | e => Q e s'
theorem loopI {k : Nat} {A : (Exit → St → Prop) → St → Prop} {Q : Exit → St → Prop} {s : St} {α : Type} (S : α → St) (Pr : α → Prop) (μ : α → Nat) (x : α) (hx : Pr x) (h0 : ToK k s (S x))
 (hr : ∀ x, Pr x → A (lpK k S Pr μ x Q) (S x)) : LoopG k A Q s := ⟨α, S, Pr, μ, ⟨x, hx, h0⟩, hr⟩
theorem lpK_n {α : Type} {k : Nat} {S : α → St} {Pr : α → Prop} {μ : α → Nat} {x : α} {Q : Exit → St → Prop} {s : St} : lpK k S Pr μ x Q .normal s = ∃ y, Pr y ∧ μ y < μ x ∧ ToK k s (S y) := rfl
theorem lpK_e {α : Type} {k : Nat} {S : α → St} {Pr : α → Prop} {μ : α → Nat} {x : α} {Q : Exit → St → Prop} {s : St} {i : Nat} : lpK k S Pr μ x Q (.exit i) s = Q (.exit i) s := rfl
theorem lpK_r {α : Type} {k : Nat} {S : α → St} {Pr : α → Prop} {μ : α → Nat} {x : α} {Q : Exit → St → Prop} {s : St} : lpK k S Pr μ x Q .ret s = Q .ret s := rfl
theorem ToK.trans {k : Nat} {s s' s'' : St} (h : ToK k s s') (h' : ToK k s' s'') : ToK k s s'' := by
 intro H F β a w hk C
 obtain ⟨F', β', C'⟩ := h H F β a w hk C
 exact h' H F' β' a w hk C'
theorem To.nil {k : Nat} {s : St} (t e sz : Nat) (ht : look s.t t = .c (.v (.slice none 0 0))) : ToK k s ⟨(t, .own s.n) :: s.t, (s.n, .row e sz []) :: s.h, s.n + 1⟩ := by
 intro H F β a w hk C
 have hb0 : ∀ bd, β s.n ≠ some bd := fun bd hb => absurd (C.m.used _ bd hb) (Nat.lt_irrefl _)
 obtain ⟨M, E⟩ := C.m.step (w' := w) (h' := lookC ((s.n, .row e sz []) :: s.h)) (β' := updB β s.n (some ⟨.slice none 0 0, none, 0, sz, []⟩)) (F' := F) (U' := (· < s.n + 1)) (fun i => i = s.n)
  (fun i hi => by simp [updB, Ne.symm hi]) (fun i hi => by simp [lookC, Ne.symm hi]) rfl rfl rfl (Nat.le_refl _) (fun _ _ _ => rfl) (fun i hi => Nat.lt_succ_of_lt hi) (fun b hb => hb)
  (fun b hb => ⟨C.m.fin b hb, .inl hb⟩) (fun i bd' hi hu => by subst hi; exact absurd hu (Nat.lt_irrefl _))
  (fun i bd' hi hb => by
   subst hi
   simp only [updB, if_true, Option.some.injEq] at hb
   subst hb
   exact ⟨Nat.lt_succ_self _, fun b hb => by have := Bind.has_nil hb; simp at this⟩)
  (fun i j _ _ _ hi hj _ _ _ _ => by rw [hi, hj])
  (fun E i hi _ => by
   subst hi
   refine ⟨⟨.slice none 0 0, none, 0, sz, []⟩, by simp [updB], ?_⟩
   simp only [lookC, if_true, ChOk]
   simp)
 refine ⟨F, updB β s.n (some ⟨.slice none 0 0, none, 0, sz, []⟩), fun t' => ?_, M, C.nt, C.d, C.f, C.g, fun i bd' hi hb => ?_, Nat.le_succ_of_le C.k⟩
 ·simp only [look]
  by_cases h : t = t'
  ·subst h
   rw [if_pos rfl]
   have h1 := C.t t
   rw [ht, relC] at h1
   simp only [RelA]
   rw [h1.1]
   refine ⟨Nat.lt_succ_self _, rfl, fun bd hb => ?_⟩
   simp only [updB, if_true, Option.some.injEq] at hb
   subst hb; rfl
  ·rw [if_neg h]; exact RelA.mono E _ _ (C.t t')
 ·refine C.e i bd' hi ?_
  have : s.n ≠ i := by have := C.k; omega
  simpa [updB, this] using hb
theorem ToK.refl (k : Nat) (s : St) : ToK k s s := fun _ F β _ _ _ C => ⟨F, β, C⟩
theorem ret0 {P : Program} {rs : List ResultVar} {r : AV} {s : St} {φ : Prop} {xs : List AV} (h : resAV P (look s.t) (lookC s.h) rs = some (φ, xs)) (hφ : φ) (hw : Wk (cv [] (lookC s.h) (oneV xs)) r) : RetG P 0 rs r [] s := by
 refine ⟨s, ToK.refl _ _, [], rfl, List.nodup_nil, trivial, ?_⟩
 rw [h]
 exact ⟨hφ, hw⟩
theorem retM {P : Program} {k : Nat} {rs : List ResultVar} {r : AV} {s : St} {hs' : List Chunk} {φ : Prop} {xs : List AV} (ids : List Nat) (h : resAV P (look s.t) (lookC s.h) rs = some (φ, xs)) (hk : ids.take k = List.range k) (hnd : ids.Nodup) (hh : hsW ids (lookC s.h) ids hs') (hφ : φ) (hw : Wk (cv ids (lookC s.h) (oneV xs)) r) : RetG P k rs r hs' s := by
 refine ⟨s, ToK.refl _ _, ids, hk, hnd, hh, ?_⟩
 rw [h]
 exact ⟨hφ, hw⟩
theorem enters {P : Program} {f : FuncId} {fn : Func} (hf : P.funcs[f]? = some fn) (hb : fn.body.isSome = true) (hn : (fn.name == "runtime.NumGoroutine") = false) : Enters P f := ⟨fn, hf, hb, hn⟩
theorem wk_self (x : AV) : Wk x x = True := eq_true (Wk.refl x)
theorem bsel_false (t p : Bool) : bsel t p false = (t && p) := by cases t <;> simp [bsel]
theorem bsel_true (t q : Bool) : bsel t true q = (t || q) := by cases t <;> simp [bsel]
theorem bool_imp (b : Bool) : (b = true → b = true) = True := by simp
theorem wrap_in (n : Int) (h1 : -9223372036854775808 ≤ n) (h2 : n ≤ 9223372036854775807) : IntKind.i64.wrap n = n := by rw [IntKind.wrap_i64]; omega
theorem look_n (i : Nat) : look [] i = .undef := rfl
theorem look_c (k i : Nat) (x : AV) (r : List (Nat × AV)) : look ((k, x) :: r) i = if k = i then x else look r i := rfl
theorem lookC_n (i : Nat) : lookC [] i = .dead := rfl
theorem lookC_c (k i : Nat) (x : Chunk) (r : List (Nat × Chunk)) : lookC ((k, x) :: r) i = if k = i then x else lookC r i := rfl
end Go.Proofs.Ytddbnknkjaffbaa
namespace Go.Proofs.Ytddbnknkjaffbaa
set_option linter.all false
open Go.RowKit
set_option maxRecDepth 100000
structure Sco where
 player : Int
 points : Int
 won : Int
deriving Inhabited, DecidableEq
def scoLt (x y : Sco) : Bool := decide (y.points < x.points ∨ y.points = x.points ∧ (y.won < x.won ∨ y.won = x.won ∧ x.player < y.player))
theorem scoLt_iff {x y : Sco} : scoLt x y = true ↔ (y.points < x.points ∨ y.points = x.points ∧ (y.won < x.won ∨ y.won = x.won ∧ x.player < y.player)) := by unfold scoLt; rw [decide_eq_true_iff]
theorem scoLt_irrefl (x : Sco) : scoLt x x = false := by
 cases h : scoLt x x with
 | false => rfl
 | true => have := scoLt_iff.1 h; omega
theorem scoLt_trans {x y z : Sco} (h1 : scoLt x y = true) (h2 : scoLt y z = true) : scoLt x z = true := by
 have a := scoLt_iff.1 h1; have b := scoLt_iff.1 h2; exact scoLt_iff.2 (by omega)
theorem scoLt_asymm {x y : Sco} (h1 : scoLt x y = true) : scoLt y x = false := by
 cases h : scoLt y x with
 | false => rfl
 | true => have a := scoLt_iff.1 h1; have b := scoLt_iff.1 h; omega
theorem scoLt_total {x y : Sco} (h : x.player ≠ y.player) : scoLt x y = true ∨ scoLt y x = true := by
 rw [scoLt_iff, scoLt_iff]; omega
theorem order_one : ∀ (l m : List Sco), l.Perm m → l.Pairwise (fun x y => scoLt x y = true) → m.Pairwise (fun x y => scoLt x y = true) → l = m
 | [], m, hp, _, _ => hp.nil_eq
 | x :: r, m, hp, h1, h2 => by
  cases m with
  | nil => exact absurd hp.length_eq (by simp)
  | cons y s =>
   obtain ⟨a1, a2⟩ := List.pairwise_cons.1 h1
   obtain ⟨b1, b2⟩ := List.pairwise_cons.1 h2
   have hxy : x = y := by
    rcases List.mem_cons.1 (hp.mem_iff.1 (List.mem_cons_self (a := x) (l := r))) with h | h
    ·exact h
    ·rcases List.mem_cons.1 (hp.mem_iff.2 (List.mem_cons_self (a := y) (l := s))) with h' | h'
     ·exact h'.symm
     ·have c1 := b1 x h
      have c2 := scoLt_asymm (a1 y h')
      rw [c1] at c2; cases c2
   subst hxy
   rw [order_one r s (List.Perm.cons_inv hp) a2 b2]
def insT (out : List Sco) (p : Sco) : List Sco := out.take (out.findIdx fun o => decide (o.points < p.points ∨ o.points = p.points ∧ o.won < p.won)) ++ p :: out.drop (out.findIdx fun o => decide (o.points < p.points ∨ o.points = p.points ∧ o.won < p.won))
theorem insT_perm (out : List Sco) (p : Sco) : (insT out p).Perm (p :: out) := by
 unfold insT
 refine (List.perm_middle).trans ?_
 rw [List.take_append_drop]
theorem insT_order (out : List Sco) (p : Sco) (ho : out.Pairwise (fun x y => scoLt x y = true)) (hl : ∀ o ∈ out, o.player < p.player) : (insT out p).Pairwise (fun x y => scoLt x y = true) := by
 unfold insT
 generalize hk : out.findIdx (fun o => decide (o.points < p.points ∨ o.points = p.points ∧ o.won < p.won)) = k
 have ha : ∀ o ∈ out.take k, scoLt o p = true := by
  intro o ho'
  obtain ⟨i, hi, rfl⟩ := List.getElem_of_mem ho'
  rw [List.getElem_take]
  have hik : i < k := by rw [List.length_take] at hi; omega
  have hio : i < out.length := by rw [List.length_take] at hi; omega
  have := List.not_of_lt_findIdx (p := fun o => decide (o.points < p.points ∨ o.points = p.points ∧ o.won < p.won)) (xs := out) (i := i) (by rw [hk]; exact hik)
  have hp := hl out[i] (List.getElem_mem hio)
  rw [scoLt_iff]
  simp only [decide_eq_false_iff_not] at this
  omega
 have hb : ∀ o ∈ out.drop k, scoLt p o = true := by
  intro o ho'
  cases hd : out.drop k with
  | nil => rw [hd] at ho'; cases ho'
  | cons y s =>
   have hkl : k < out.length := by
    rcases Nat.lt_or_ge k out.length with h | h
    ·exact h
    ·rw [List.drop_eq_nil_of_le h] at hd; cases hd
   have hy : out[k] = y := by
    have := List.drop_eq_getElem_cons hkl
    rw [hd] at this
    exact (List.cons.inj this).1.symm
   have hf := List.findIdx_getElem (p := fun o => decide (o.points < p.points ∨ o.points = p.points ∧ o.won < p.won)) (xs := out) (w := by rw [hk]; exact hkl)
   simp only [hk] at hf
   rw [hy, decide_eq_true_eq] at hf
   have hpy : scoLt p y = true := scoLt_iff.2 (by omega)
   rw [hd] at ho'
   rcases List.mem_cons.1 ho' with rfl | h
   ·exact hpy
   ·have hs : (y :: s).Pairwise (fun x y => scoLt x y = true) := hd ▸ ho.drop
    exact scoLt_trans hpy ((List.pairwise_cons.1 hs).1 o h)
 refine List.pairwise_append.2 ⟨ho.take, List.pairwise_cons.2 ⟨hb, ho.drop⟩, fun x hx y hy => ?_⟩
 rcases List.mem_cons.1 hy with rfl | hy
 ·exact ha x hx
 ·exact scoLt_trans (ha x hx) (hb y hy)
def tabT (l : List Sco) : List Sco := l.foldl insT []
theorem tabT_snoc (l : List Sco) (p : Sco) : tabT (l ++ [p]) = insT (tabT l) p := by unfold tabT; rw [List.foldl_append]; rfl
theorem tabT_ok (l : List Sco) (hl : l.Pairwise fun x y => x.player < y.player) : (tabT l).Perm l ∧ (tabT l).Pairwise (fun x y => scoLt x y = true) := by
 suffices H : ∀ n, n ≤ l.length → (tabT (l.take n)).Perm (l.take n) ∧ (tabT (l.take n)).Pairwise (fun x y => scoLt x y = true) by
  have := H l.length (Nat.le_refl _)
  rwa [List.take_length] at this
 intro n
 induction n with
 | zero => intro _; exact ⟨List.Perm.refl _, List.Pairwise.nil⟩
 | succ n ih =>
  intro hn
  obtain ⟨p1, p2⟩ := ih (by omega)
  have e : l.take (n + 1) = l.take n ++ [l[n]] := (List.take_succ_eq_append_getElem (by omega))
  rw [e, tabT_snoc]
  refine ⟨?_, insT_order _ _ p2 fun o ho => ?_⟩
  ·refine (insT_perm _ _).trans ?_
   refine (List.Perm.cons _ p1).trans ?_
   exact (List.perm_append_singleton _ _).symm
  ·have hm := p1.mem_iff.1 ho
   obtain ⟨i, hi, rfl⟩ := List.getElem_of_mem hm
   rw [List.getElem_take]
   have hi' : i < n := by rw [List.length_take] at hi; omega
   exact (List.pairwise_iff_getElem.1 hl) i n (by omega) (by omega) hi'
theorem sort_is (l d : List Sco) (hl : l.Pairwise fun x y => x.player < y.player) (hp : d.Perm l) (hs : ∀ i j (hi : i < d.length) (hj : j < d.length), i < j → scoLt d[j] d[i] = false) : d = tabT l := by
 obtain ⟨t1, t2⟩ := tabT_ok l hl
 refine order_one d (tabT l) (hp.trans t1.symm) (List.pairwise_iff_getElem.2 fun i j hi hj hij => ?_) t2
 have hne : d[i].player ≠ d[j].player := by
  have nd : (d.map fun x => x.player).Nodup := by
   refine ((hp.map (fun x => x.player)).nodup_iff).2 ?_
   rw [List.nodup_iff_pairwise_ne, List.pairwise_map]
   exact hl.imp fun h => by omega
  intro e
  have := (List.nodup_iff_pairwise_ne.1 nd)
  rw [List.pairwise_map] at this
  exact (List.pairwise_iff_getElem.1 this) i j hi hj hij e
 rcases scoLt_total hne with h | h
 ·exact h
 ·rw [hs i j hi hj hij] at h; cases h
structure Gam where
 a : Int
 b : Int
 won : Int
deriving Inhabited, DecidableEq
def gamV (g : Gam) (p : Int) : Int × Int :=
 if g.won = 2 ∧ (g.a = p ∨ g.b = p) then (1, 0) else if g.won = 0 ∧ g.a = p ∨ g.won = 1 ∧ g.b = p then (3, 1) else (0, 0)
def ptsV : List Gam → Int → Int × Int
 | [], _ => (0, 0)
 | g :: r, p => ((gamV g p).1 + (ptsV r p).1, (gamV g p).2 + (ptsV r p).2)
theorem ptsV_snoc : ∀ (l : List Gam) (g : Gam) (p : Int), ptsV (l ++ [g]) p = ((ptsV l p).1 + (gamV g p).1, (ptsV l p).2 + (gamV g p).2)
 | [], g, p => by simp [ptsV]
 | x :: r, g, p => by
  show ((gamV x p).1 + (ptsV (r ++ [g]) p).1, (gamV x p).2 + (ptsV (r ++ [g]) p).2) = _
  rw [ptsV_snoc r g p]
  simp only [ptsV, Prod.mk.injEq]
  omega
theorem gamV_b (g : Gam) (p : Int) : 0 ≤ (gamV g p).1 ∧ (gamV g p).1 ≤ 3 ∧ 0 ≤ (gamV g p).2 ∧ (gamV g p).2 ≤ 1 := by
 unfold gamV
 split
 ·simp
 ·split <;> simp
theorem ptsV_b : ∀ (l : List Gam) (p : Int), 0 ≤ (ptsV l p).1 ∧ (ptsV l p).1 ≤ 3 * l.length ∧ 0 ≤ (ptsV l p).2 ∧ (ptsV l p).2 ≤ l.length
 | [], _ => by simp [ptsV]
 | g :: r, p => by
  have h1 := ptsV_b r p
  have h2 := gamV_b g p
  simp only [ptsV, List.length_cons]
  omega
def scoF (l : List Gam) (p : Int) : Sco := ⟨p, (ptsV l p).1, (ptsV l p).2⟩
def scoN (n : Nat) (l : List Gam) : List Sco := (List.range n).map fun (i : Nat) => scoF l i
theorem scoN_len (n : Nat) (l : List Gam) : (scoN n l).length = n := by simp [scoN]
theorem scoN_at (n : Nat) (l : List Gam) (i : Nat) (hi : i < n) : (scoN n l).getD i default = scoF l i := by
 unfold scoN; rw [List.getD_eq_getElem?_getD, List.getElem?_map, List.getElem?_range hi]; rfl
theorem scoN_up (n : Nat) (l : List Gam) : (scoN n l).Pairwise fun x y => x.player < y.player := by
 unfold scoN
 rw [List.pairwise_map]
 exact List.pairwise_lt_range.imp fun h => by simp only [scoF]; omega
theorem gamV_0 (g : Gam) (p : Int) (h : g.won = 0) : gamV g p = if p = g.a then (3, 1) else (0, 0) := by
 unfold gamV
 rw [if_neg (by omega)]
 by_cases hp : p = g.a
 ·rw [if_pos (by omega), if_pos hp]
 ·rw [if_neg (by omega), if_neg hp]
theorem gamV_1 (g : Gam) (p : Int) (h : g.won = 1) : gamV g p = if p = g.b then (3, 1) else (0, 0) := by
 unfold gamV
 rw [if_neg (by omega)]
 by_cases hp : p = g.b
 ·rw [if_pos (by omega), if_pos hp]
 ·rw [if_neg (by omega), if_neg hp]
theorem gamV_2 (g : Gam) (p : Int) (h : g.won = 2) : gamV g p = if p = g.a ∨ p = g.b then (1, 0) else (0, 0) := by
 unfold gamV
 by_cases hp : p = g.a ∨ p = g.b
 ·rw [if_pos (by omega), if_pos hp]
 ·rw [if_neg (by omega), if_neg (by omega), if_neg hp]
theorem scoN_win (n : Nat) (l : List Gam) (g : Gam) (q : Nat) (hq : q < n) (h : ∀ p : Int, gamV g p = if p = q then (3, 1) else (0, 0)) : scoN n (l ++ [g]) = (scoN n l).set q ⟨q, (ptsV l q).1 + 3, (ptsV l q).2 + 1⟩ := by
 apply List.ext_getElem?
 intro j
 unfold scoN
 rw [List.getElem?_set, List.getElem?_map, List.getElem?_map, List.length_map, List.length_range]
 by_cases hj : j < n
 ·rw [List.getElem?_range hj]
  by_cases hqj : q = j
  ·subst hqj
   rw [if_pos rfl, if_pos hj]
   simp only [Option.map_some, scoF, ptsV_snoc, h, if_true]
  ·rw [if_neg hqj]
   simp only [Option.map_some, scoF, ptsV_snoc, h, if_neg (show ¬ ((j : Int) = q) by omega), Int.add_zero]
 ·rw [List.getElem?_eq_none (by simp; omega)]
  by_cases hqj : q = j
  ·omega
  ·rw [if_neg hqj]; rfl
theorem scoN_draw (n : Nat) (l : List Gam) (g : Gam) (q r : Nat) (hq : q < n) (hr : r < n) (hqr : q ≠ r) (h : ∀ p : Int, gamV g p = if p = q ∨ p = r then (1, 0) else (0, 0)) : scoN n (l ++ [g]) = ((scoN n l).set q ⟨q, (ptsV l q).1 + 1, (ptsV l q).2⟩).set r ⟨r, (ptsV l r).1 + 1, (ptsV l r).2⟩ := by
 apply List.ext_getElem?
 intro j
 unfold scoN
 rw [List.getElem?_set, List.getElem?_set, List.getElem?_map, List.getElem?_map, List.length_set, List.length_map, List.length_range]
 by_cases hj : j < n
 ·rw [List.getElem?_range hj]
  by_cases hrj : r = j
  ·subst hrj
   rw [if_pos rfl, if_pos hj]
   simp only [Option.map_some, scoF, ptsV_snoc, h, or_true, if_true, Int.add_zero]
  ·rw [if_neg hrj]
   by_cases hqj : q = j
   ·subst hqj
    rw [if_pos rfl, if_pos hj]
    simp only [Option.map_some, scoF, ptsV_snoc, h, true_or, if_true, Int.add_zero]
   ·rw [if_neg hqj]
    simp only [Option.map_some, scoF, ptsV_snoc, h, if_neg (show ¬ ((j : Int) = q ∨ (j : Int) = r) by omega), Int.add_zero]
 ·rw [List.getElem?_eq_none (by simp; omega)]
  by_cases hrj : r = j
  ·omega
  ·rw [if_neg hrj]
   by_cases hqj : q = j
   ·omega
   ·rw [if_neg hqj]; rfl
def tableV (n : Nat) (l : List Gam) : List Int := (tabT (scoN n l)).map fun x => x.player
def gamR (n : Int) (g : Gam) : Bool := decide (0 ≤ g.a ∧ g.a < n ∧ 0 ≤ g.b ∧ g.b < n ∧ g.a ≠ g.b ∧ 0 ≤ g.won ∧ g.won ≤ 2)
def gamsE (n : Int) (l : List Gam) : Int := if n < 1 ∨ 64 < n then 1 else if 3000 < l.length then 2 else if l.all (gamR n) then 0 else 4
end Go.Proofs.Ytddbnknkjaffbaa
namespace Go.Proofs.Ytddbnknkjaffbaa
set_option linter.all false
open Go.RowKit
def Els {α : Type} (w : World) (B : Nat) (a : Option Addr) (sz : Nat) (enc : α → List Value) (xs : List α) : Prop :=
 xs = [] ∨ ∃ b o, a = some ⟨b, o, none⟩ ∧ b < B ∧ ∀ i j v, (xs[i]?).bind (fun x => (enc x)[j]?) = some v → w.cell? ⟨b, o + (i * sz + j), none⟩ = some v
theorem Els.nil {α : Type} (w : World) (B : Nat) (a : Option Addr) (sz : Nat) (enc : α → List Value) : Els w B a sz enc [] := .inl rfl
theorem Els.get {α : Type} {w : World} {B : Nat} {a : Option Addr} {sz : Nat} {enc : α → List Value} {xs : List α} (h : Els w B a sz enc xs) (i : Nat) (hi : i < xs.length) :
 ∃ b o, a = some ⟨b, o, none⟩ ∧ b < B ∧ ∀ j v, (enc xs[i])[j]? = some v → w.cell? ⟨b, o + (i * sz + j), none⟩ = some v := by
 rcases h with rfl | ⟨b, o, ha, hb, hc⟩
 ·simp at hi
 ·exact ⟨b, o, ha, hb, fun j v hv => hc i j v (by simp [hi, hv])⟩
theorem Els.mono {α : Type} {w : World} {B B' : Nat} {a : Option Addr} {sz : Nat} {enc : α → List Value} {xs : List α} (h : Els w B a sz enc xs) (hB : B ≤ B') : Els w B' a sz enc xs := by
 rcases h with rfl | ⟨b, o, ha, hlt, hc⟩
 ·exact .inl rfl
 ·exact .inr ⟨b, o, ha, by omega, hc⟩
def e64 (n : Nat) : List Value := [.int .u64 n]
def e32 (n : Nat) : List Value := [.int .u32 n]
def ei64 (n : Int) : List Value := [.int .i64 n]
theorem Els.u64 {w : World} {B : Nat} {a : Option Addr} {xs : List Nat} (h : Els w B a 1 e64 xs) (i : Nat) (hi : i < xs.length) :
 ∃ b o, a = some ⟨b, o, none⟩ ∧ b < B ∧ w.cell? ⟨b, o + i, none⟩ = some (.int .u64 (xs[i] : Nat)) := by
 obtain ⟨b, o, ha, hb, hc⟩ := h.get i hi
 exact ⟨b, o, ha, hb, by simpa using hc 0 _ rfl⟩
theorem Els.i64 {w : World} {B : Nat} {a : Option Addr} {xs : List Int} (h : Els w B a 1 ei64 xs) (i : Nat) (hi : i < xs.length) :
 ∃ b o, a = some ⟨b, o, none⟩ ∧ b < B ∧ w.cell? ⟨b, o + i, none⟩ = some (.int .i64 xs[i]) := by
 obtain ⟨b, o, ha, hb, hc⟩ := h.get i hi
 exact ⟨b, o, ha, hb, by simpa using hc 0 _ rfl⟩
theorem Els.u32 {w : World} {B : Nat} {a : Option Addr} {xs : List Nat} (h : Els w B a 1 e32 xs) (i : Nat) (hi : i < xs.length) :
 ∃ b o, a = some ⟨b, o, none⟩ ∧ b < B ∧ w.cell? ⟨b, o + i, none⟩ = some (.int .u32 (xs[i] : Nat)) := by
 obtain ⟨b, o, ha, hb, hc⟩ := h.get i hi
 exact ⟨b, o, ha, hb, by simpa using hc 0 _ rfl⟩
theorem flatMap_get {α β : Type} (enc : α → List β) (sz : Nat) : ∀ (xs : List α), (∀ x ∈ xs, (enc x).length = sz) → ∀ i j, j < sz → (xs.flatMap enc)[i * sz + j]? = (xs[i]?).bind fun x => (enc x)[j]? := by
 intro xs
 induction xs with
 | nil => intro _ i j _; simp
 | cons x xs ih =>
  intro h i j hj
  have hx := h x (by simp)
  cases i with
  | zero => simp [List.flatMap_cons, List.getElem?_append, hx, hj]
  | succ i =>
   have e : (i + 1) * sz + j = sz + (i * sz + j) := by rw [Nat.add_mul]; omega
   rw [List.flatMap_cons, List.getElem?_append_right (by omega), e, hx, Nat.add_sub_cancel_left, ih (fun y hy => h y (by simp [hy])) i j hj]
   simp
theorem flatMap_len {α β : Type} (enc : α → List β) (sz : Nat) (xs : List α) (h : ∀ x ∈ xs, (enc x).length = sz) : (xs.flatMap enc).length = xs.length * sz := by
 induction xs with
 | nil => simp
 | cons x xs ih => rw [List.flatMap_cons, List.length_append, h x (by simp), ih fun y hy => h y (by simp [hy]), List.length_cons, Nat.add_mul]; omega
theorem mul_div_lt {j sz n : Nat} (h : j < n * sz) : j / sz < n ∧ j / sz * sz + j % sz = j ∧ j % sz < sz := by
 have hs : 0 < sz := by
  rcases Nat.eq_zero_or_pos sz with rfl | h0
  ·simp at h
  ·exact h0
 exact ⟨(Nat.div_lt_iff_lt_mul hs).2 h, by rw [Nat.mul_comm]; exact Nat.div_add_mod j sz, Nat.mod_lt _ hs⟩
theorem Els.news {α : Type} {w : World} {B : Nat} {a : Option Addr} {sz : Nat} {enc : α → List Value} {xs : List α} (h : Els w B a sz enc xs) (he : ∀ x ∈ xs, (enc x).length = sz) :
 ∀ ad, a = some ad → ∀ j u, (xs.flatMap enc)[j]? = some u → w.cell? (ad.add j) = some u := by
 intro ad had j u hu
 rcases h with rfl | ⟨b, o, ha, hb, hc⟩
 ·simp at hu
 ·rw [ha] at had
  obtain rfl := Option.some.inj had
  have hj : j < xs.length * sz := by rw [← flatMap_len enc sz xs he]; exact (List.getElem?_eq_some_iff.1 hu).1
  obtain ⟨h1, h2, h3⟩ := mul_div_lt hj
  have := hc (j / sz) (j % sz) u (by rw [← flatMap_get enc sz xs he _ _ h3, h2]; exact hu)
  rw [h2] at this
  rw [Addr.add_lit]; exact this
theorem Els.take {α : Type} {w : World} {B : Nat} {a : Option Addr} {sz : Nat} {enc : α → List Value} {xs : List α} (h : Els w B a sz enc xs) (m : Nat) : Els w B a sz enc (xs.take m) := by
 rcases h with rfl | ⟨b, o, ha, hb, hc⟩
 ·exact .inl (by simp)
 ·refine .inr ⟨b, o, ha, hb, fun i j v hv => ?_⟩
  rw [List.getElem?_take] at hv
  split at hv
  ·exact hc i j v hv
  ·simp at hv
theorem Els.drop {α : Type} {w : World} {B b o : Nat} {sz : Nat} {enc : α → List Value} {xs : List α} (h : Els w B (some ⟨b, o, none⟩) sz enc xs) (m : Nat) : Els w B (some ⟨b, o + m * sz, none⟩) sz enc (xs.drop m) := by
 rcases h with rfl | ⟨b', o', ha, hb, hc⟩
 ·exact .inl (by simp)
 ·simp only [Option.some.injEq, Addr.mk.injEq, and_true] at ha
  obtain ⟨rfl, rfl⟩ := ha
  refine .inr ⟨b, o + m * sz, rfl, hb, fun i j v hv => ?_⟩
  rw [List.getElem?_drop] at hv
  have := hc (m + i) j v hv
  rwa [Nat.add_mul, show o + (m * sz + i * sz + j) = o + m * sz + (i * sz + j) from by omega] at this
theorem Els.b0 {α : Type} {w : World} {B : Nat} {a : Option Addr} {sz : Nat} {enc : α → List Value} {xs : List α} (h : Els w B a sz enc xs) : xs = [] ∨ ∃ b o, a = some ⟨b, o, none⟩ ∧ b < B := by
 rcases h with h | ⟨b, o, h1, h2, _⟩
 ·exact .inl h
 ·exact .inr ⟨b, o, h1, h2⟩
def ixOf {α : Type} (p : α → Bool) (xs : List α) : Int := match xs.findIdx? p with | none => -1 | some i => (i : Int)
theorem ixOf_hit {α : Type} (p : α → Bool) (xs : List α) (k : Nat) (hk : k < xs.length) (h : p xs[k] = true) (h0 : ∀ j (hj : j < xs.length), j < k → p xs[j] = false) : ixOf p xs = k := by
 have : xs.findIdx? p = some k := List.findIdx?_eq_some_iff_getElem.2 ⟨hk, h, fun j hj => by rw [h0 j (by omega) hj]; decide⟩
 rw [ixOf, this]
theorem ixOf_miss {α : Type} (p : α → Bool) (xs : List α) (h0 : ∀ j (hj : j < xs.length), p xs[j] = false) : ixOf p xs = -1 := by
 have : xs.findIdx? p = none := by
  rw [List.findIdx?_eq_none_iff]
  intro x hx
  obtain ⟨j, hj, rfl⟩ := List.mem_iff_getElem.1 hx
  exact h0 j hj
 rw [ixOf, this]
end Go.Proofs.Ytddbnknkjaffbaa
namespace Go.Proofs.Ytddbnknkjaffbaa
set_option linter.all false
open Go.RowKit Go.ChangeShapes Go.WideShapes Go.ChangeAt
def Opens (P : Program) (T sz : Nat) (w : World) {α : Type} (enc : α → List Value) (ok : α → Prop) : Prop :=
 ∀ (H : Type) (eH : TypeId × Value → H) (fuel : Nat) (cs : List Value) (y : DataW H × List MemPlace), DataW.trod eH P w 0 (fun _ => true) true fuel T cs = some y → (∀ n ∈ y.1.weights P T, n ≤ reachBytes) → ∃ x : α, cs = enc x ∧ cs.length = sz ∧ ok x
theorem Opens.int {P : Program} {T : Nat} {w : World} {k : IntKind} (h : P.underlying T = some (.int k)) : Opens P T 1 w (fun n : Int => [.int k n]) (fun n => (Lit.int k n).wf = true) := by
 intro H eH fuel cs y hy _
 obtain ⟨n, rfl, _, hw⟩ := DataW.trod_int h hy
 exact ⟨n, rfl, rfl, hw⟩
theorem wf_i64' {n : Int} (h : (Lit.int .i64 n).wf = true) : -9223372036854775808 ≤ n ∧ n ≤ 9223372036854775807 := by
 simpa [Lit.wf, IntKind.min, IntKind.max, IntKind.signed, IntKind.bits] using h
theorem wf_u64' {n : Int} (h : (Lit.int .u64 n).wf = true) : 0 ≤ n ∧ n ≤ 18446744073709551615 := by
 simpa [Lit.wf, IntKind.min, IntKind.max, IntKind.signed, IntKind.bits] using h
theorem wf_u32' {n : Int} (h : (Lit.int .u32 n).wf = true) : 0 ≤ n ∧ n ≤ 4294967295 := by
 simpa [Lit.wf, IntKind.min, IntKind.max, IntKind.signed, IntKind.bits] using h
theorem Opens.i64 {P : Program} {T : Nat} {w : World} (h : P.underlying T = some (.int .i64)) : Opens P T 1 w ei64 (fun n => -9223372036854775808 ≤ n ∧ n ≤ 9223372036854775807) := by
 intro H eH fuel cs y hy _
 obtain ⟨n, rfl, _, hw⟩ := DataW.trod_int h hy
 exact ⟨n, rfl, rfl, wf_i64' hw⟩
theorem Opens.u64 {P : Program} {T : Nat} {w : World} (h : P.underlying T = some (.int .u64)) : Opens P T 1 w e64 (fun n => n < 18446744073709551616) := by
 intro H eH fuel cs y hy _
 obtain ⟨n, rfl, _, hw⟩ := DataW.trod_int h hy
 have := wf_u64' hw
 exact ⟨n.toNat, by simp only [e64]; congr 2; omega, rfl, by omega⟩
theorem Opens.u32 {P : Program} {T : Nat} {w : World} (h : P.underlying T = some (.int .u32)) : Opens P T 1 w e32 (fun n => n < 4294967296) := by
 intro H eH fuel cs y hy _
 obtain ⟨n, rfl, _, hw⟩ := DataW.trod_int h hy
 have := wf_u32' hw
 exact ⟨n.toNat, by simp only [e32]; congr 2; omega, rfl, by omega⟩
def eBool (b : Bool) : List Value := [.bool b]
theorem Opens.bool {P : Program} {T : Nat} {w : World} (h : P.underlying T = some .bool) : Opens P T 1 w eBool (fun _ => True) := by
 intro H eH fuel cs y hy _
 obtain ⟨b, rfl, _⟩ := DataW.trod_bool h hy
 exact ⟨b, rfl, rfl, trivial⟩
def eStr (s : ByteArray) : List Value := [.string s]
theorem Opens.str {P : Program} {T : Nat} {w : World} (h : P.underlying T = some .string) : Opens P T 1 w eStr (fun s => s.size ≤ 140737488351232) := by
 intro H eH fuel cs y hy hw
 obtain ⟨s, rfl, rfl, hs⟩ := DataW.trod_string h hy
 exact ⟨s, rfl, rfl, (by
  have h := hw s.data.toList.length (List.mem_singleton.2 rfl)
  have e : s.data.toList.length = s.size := Array.length_toList
  rw [e] at h
  exact h)⟩
structure SL (α : Type) where
 a : Option Addr
 c : Nat
 xs : List α
def SL.val {α : Type} (s : SL α) : Value := .slice s.a s.xs.length s.c
def SL.enc {α : Type} (s : SL α) : List Value := [s.val]
structure SLok {α : Type} (w : World) (B : Nat) (sz bts : Nat) (enc : α → List Value) (ok : α → Prop) (s : SL α) : Prop where
 els : Els w B s.a sz enc s.xs
 each : ∀ x ∈ s.xs, ok x ∧ (enc x).length = sz
 cap : s.xs.length ≤ s.c
 max : s.c ≤ maxLen
 reach : s.c * bts ≤ 140737488351232
 nil : s.a = none → s.xs.length = 0 ∧ s.c = 0
theorem Opens.slice {P : Program} {T E sz bts : Nat} {w : World} {α : Type} {enc : α → List Value} {ok : α → Prop} (hT : P.underlying T = some (.slice E)) (hc : P.cellsOf E = sz) (hsz : 0 < sz) (hby : P.bytesOf E = bts) (hE : Opens P E sz w enc ok) :
 Opens P T 1 w (SL.enc (α := α)) (SLok w w.heap.size sz bts enc ok) := by
 intro H eH fuel cs y hy hw
 rcases Deep.open_slice hT hy with ⟨rfl, _⟩ | ⟨a, len, cap, m, n, D, Pl, rfl, _, hl, hm, hmm, hy2, hx⟩
 ·exact ⟨⟨none, 0, []⟩, rfl, rfl, ⟨.inl rfl, by simp, Nat.le_refl _, Nat.zero_le _, by simp, fun _ => ⟨rfl, rfl⟩⟩⟩
 ·simp only [if_true] at hmm
  subst hmm
  subst hy2
  have hreach : m * bts ≤ 140737488351232 := by
   have h := hw ((len + (m - len)) * P.bytesOf E) (by simp [DataW.weights, hT])
   rw [show len + (m - len) = m from by omega, hby] at h
   exact h
  have hwe : ∀ i, i < len → ∀ k ∈ (D i).weights P E, k ≤ reachBytes := by
   intro i hi k hk
   refine hw k ?_
   simp only [DataW.weights, hT, List.mem_cons, List.mem_append]
   refine .inr (.inl ?_)
   have key : ∀ (l : List (DataW H)), D i ∈ l → k ∈ DataW.weightsAll P E l := by
    intro l
    induction l with
    | nil => intro h; simp at h
    | cons d l ih =>
     intro h
     simp only [DataW.weightsAll, List.mem_append]
     rcases List.mem_cons.1 h with rfl | h
     ·exact .inl hk
     ·exact .inr (ih h)
   exact key _ (List.mem_map.2 ⟨i, List.mem_range.2 hi, rfl⟩)
  have hx2 : ∀ i, i < len → ∃ x : α, ok x ∧ (enc x).length = sz ∧ ∀ j, j < sz → w.cell? ((a.add (i * sz)).add j) = (enc x)[j]? := by
   intro i hi
   obtain ⟨cs', h1, h2⟩ := hx i (by omega)
   obtain ⟨x, rfl, hlen, hok⟩ := hE H eH n cs' _ h2 (hwe i hi)
   obtain ⟨_, _, h3⟩ := World.cells?_some h1
   rw [hc] at h3
   exact ⟨x, hok, hlen, h3⟩
  by_cases h0 : len = 0
  ·subst h0
   exact ⟨⟨some a, m, []⟩, rfl, rfl, ⟨.inl rfl, by simp, Nat.zero_le _, hm, hreach, fun h => by simp at h⟩⟩
  ·obtain ⟨x0, _⟩ := hx2 0 (by omega)
   have : Inhabited α := ⟨x0⟩
   obtain ⟨f, hf⟩ := Deep.choose_lt (p := fun i x => ok x ∧ (enc x).length = sz ∧ ∀ j, j < sz → w.cell? ((a.add (i * sz)).add j) = (enc x)[j]?) hx2
   have hlen : ((List.range len).map f).length = len := by simp
   refine ⟨⟨some a, m, (List.range len).map f⟩, by simp [SL.enc, SL.val], rfl, ⟨?_, ?_, by simpa using hl, hm, hreach, fun h => by simp at h⟩⟩
   ·obtain ⟨_, hl0, hc0⟩ := hf 0 (by omega)
    have hcell := hc0 0 hsz
    rw [List.getElem?_eq_getElem (by omega)] at hcell
    simp only [Nat.zero_mul] at hcell
    have hadd0 : ((a.add 0).add 0) = a := by simp [Addr.add]
    rw [hadd0] at hcell
    have hsp := World.cell?_spot hcell
    have hlt := World.block_lt_of_cell? w a hcell
    obtain ⟨b, o, sp⟩ := a
    simp only at hsp
    subst hsp
    refine .inr ⟨b, o, rfl, hlt, fun i j v hv => ?_⟩
    cases hxi : ((List.range len).map f)[i]? with
    | none => rw [hxi] at hv; simp at hv
    | some x =>
     rw [hxi] at hv
     have hi : i < len := by have := (List.getElem?_eq_some_iff.1 hxi).1; simpa using this
     have hfx : f i = x := by simpa [hi] using hxi
     obtain ⟨_, hl1, hc1⟩ := hf i hi
     have hj : j < sz := by
      have hv' : (enc x)[j]? = some v := by simpa using hv
      have := (List.getElem?_eq_some_iff.1 hv').1
      rw [← hfx, hl1] at this; exact this
     have := hc1 j hj
     rw [hfx] at this
     rw [Deep.add_add, Addr.add_lit] at this
     rw [this]; simpa using hv
   ·intro x hx
    simp only [List.mem_map, List.mem_range] at hx
    obtain ⟨i, hi, rfl⟩ := hx
    obtain ⟨h1, h2, _⟩ := hf i hi
    exact ⟨h1, h2⟩
theorem Opens.map {P : Program} {T sz : Nat} {w : World} {α β : Type} {enc : α → List Value} {ok : α → Prop} {enc' : β → List Value} {ok' : β → Prop} (h : Opens P T sz w enc ok) (f : α → β) (hf : ∀ x, enc' (f x) = enc x) (hok : ∀ x, ok x → ok' (f x)) : Opens P T sz w enc' ok' := by
 intro H eH fuel cs y hy hw
 obtain ⟨x, rfl, hl, ho⟩ := h H eH fuel cs y hy hw
 exact ⟨f x, (hf x).symm, hl, hok x ho⟩
def OpensF (P : Program) (w : World) (fs : List Field) (o sz : Nat) {α : Type} (enc : α → List Value) (ok : α → Prop) : Prop :=
 ∀ (H : Type) (eH : TypeId × Value → H) (fuel : Nat) (cs : List Value), cs.length = o + sz →
  (∀ f ∈ fs, ∃ y, DataW.trod eH P w 0 (fun _ => true) true fuel f.type ((cs.drop f.offset).take (P.cellsOf f.type)) = some y ∧ ∀ n ∈ y.1.weights P f.type, n ≤ reachBytes) → ∃ x : α, cs.drop o = enc x ∧ ok x
theorem OpensF.nil {P : Program} {w : World} {o : Nat} : OpensF P w [] o 0 (fun _ : Unit => []) (fun _ => True) := by
 intro H eH fuel cs hl _
 exact ⟨(), List.drop_eq_nil_of_le (by omega), trivial⟩
theorem OpensF.cons {P : Program} {w : World} {f : Field} {fs : List Field} {o n sz : Nat} {α β : Type} {enc : α → List Value} {ok : α → Prop} {enc' : β → List Value} {ok' : β → Prop}
 (ho : f.offset = o) (hn : P.cellsOf f.type = n) (h : Opens P f.type n w enc ok) (h' : OpensF P w fs (o + n) sz enc' ok') :
 OpensF P w (f :: fs) o (n + sz) (fun x : α × β => enc x.1 ++ enc' x.2) (fun x => ok x.1 ∧ ok' x.2) := by
 intro H eH fuel cs hl hall
 obtain ⟨y, hy, hw⟩ := hall f (by simp)
 rw [ho, hn] at hy
 obtain ⟨x, hx, _, hok⟩ := h H eH fuel _ y hy hw
 obtain ⟨x', hx', hok'⟩ := h' H eH fuel cs (by omega) (fun g hg => hall g (by simp [hg]))
 refine ⟨(x, x'), ?_, hok, hok'⟩
 show cs.drop o = enc x ++ enc' x'
 rw [← hx, ← hx', ← List.drop_drop, List.take_append_drop]
theorem Opens.struct {P : Program} {T sz : Nat} {w : World} {fs : Array Field} {α : Type} {enc : α → List Value} {ok : α → Prop} (hT : P.underlying T = some (.struct fs)) (hc : P.cellsOf T = sz) (h : OpensF P w fs.toList 0 sz enc ok) :
 Opens P T sz w enc ok := by
 intro H eH fuel cs y hy hw
 obtain ⟨xs, n, _, rfl, hl, hlen, hfs⟩ := DataW.trod_struct hT hy
 obtain ⟨x, hx, hok⟩ := h H eH n cs (by omega) (fun f hf => by
  obtain ⟨i, hi, he⟩ := List.getElem_of_mem hf
  have hi' : i < fs.size := by simpa using hi
  have hfi : fs[i]? = some f := by rw [Array.getElem?_eq_getElem hi']; simpa using he
  have := hfs i f hfi
  have hx : xs[i]? = some (xs[i]'(by omega)) := List.getElem?_eq_getElem (by omega)
  rw [hx] at this
  refine ⟨_, this, fun k hk => hw k ?_⟩
  simp only [DataW.weights, hT]
  refine DataW.weights_mem_each (j := i) (t := f.type) ?_ ?_ k hk
  ·rw [List.getElem?_map, Array.getElem?_toList, hfi]; rfl
  ·rw [List.getElem?_map, hx]; rfl)
 exact ⟨x, by simpa using hx, by omega, hok⟩
theorem Opens.arg {P : Program} {T sz : Nat} {w : World} {α : Type} {enc : α → List Value} {ok : α → Prop} (h : Opens P T sz w enc ok) {H : Type} {eH : TypeId × Value → H} {v : Value} {d : DataW H} {p : List MemPlace}
 (hT : DataW.Trod eH P w 0 (fun _ => true) true T v d p) {ts : List TypeId} {ds : List (DataW H)} (hz : (DataW.weightsEach P ts ds).all (· ≤ reachBytes) = true) (j : Nat) (h1 : ts[j]? = some T) (h2 : ds[j]? = some d) : ∃ x : α, v.cells.toList = enc x ∧ ok x := by
 obtain ⟨fuel, hf⟩ := hT
 obtain ⟨x, h1, _, h2⟩ := h H eH fuel _ _ hf (fun n hn => by
  have := List.all_eq_true.1 hz n (DataW.weights_mem_each h1 h2 n hn)
  simpa using this)
 exact ⟨x, h1, h2⟩
end Go.Proofs.Ytddbnknkjaffbaa
namespace Go.Proofs.Ytddbnknkjaffbaa
set_option linter.all false
open Go.RowKit
theorem rel_c {w : World} {F : Nat → Prop} {b : Nat} : ∀ (ps : List PV) (vs : List Value) (o : Nat), vs.length = ps.length → (∀ (j : Nat) v, vs[j]? = some v → w.cell? ⟨b, o + j, none⟩ = some v) → (∀ (j : Nat) p u, ps[j]? = some p → vs[j]? = some u → RelP w F p u) → RelC w F b o ps
 | [], _, _, _, _, _ => by simp only [RelC]
 | p :: ps, [], _, h, _, _ => by simp at h
 | p :: ps, v :: vs, o, h, hc, hr => by
  simp only [RelC]
  refine ⟨⟨v, by have := hc 0 v rfl; simpa using this, hr 0 p v rfl rfl⟩, rel_c ps vs (o + 1) (by simpa using h) (fun j u hu => ?_) (fun j q u h1 h2 => hr (j + 1) q u h1 h2)⟩
  have := hc (j + 1) u hu
  rwa [show o + (j + 1) = o + 1 + j from by omega] at this
theorem rel_e {α : Type} {w : World} {F : Nat → Prop} {b sz : Nat} {enc : α → List Value} {pv : α → List PV} : ∀ (xs : List α) (o : Nat), (∀ i j v, (xs[i]?).bind (fun x => (enc x)[j]?) = some v → w.cell? ⟨b, o + (i * sz + j), none⟩ = some v) →
 (∀ x ∈ xs, (pv x).length = sz ∧ (enc x).length = sz ∧ ∀ (j : Nat) p u, (pv x)[j]? = some p → (enc x)[j]? = some u → RelP w F p u) → RelE w F b sz o (xs.map pv)
 | [], _, _, _ => by simp only [List.map_nil, RelE]
 | x :: xs, o, hc, hp => by
  simp only [List.map_cons, RelE]
  obtain ⟨h1, h2, h3⟩ := hp x (by simp)
  refine ⟨h1, rel_c (pv x) (enc x) o (by rw [h1, h2]) (fun j v hv => ?_) h3, rel_e xs (o + sz) (fun i j v hv => ?_) fun y hy => hp y (List.mem_cons_of_mem _ hy)⟩
  ·have := hc 0 j v (by simpa using hv); simpa using this
  ·have := hc (i + 1) j v (by simpa using hv)
   rwa [show o + ((i + 1) * sz + j) = o + sz + (i * sz + j) from by rw [Nat.succ_mul]; omega] at this
theorem rel_sl {α : Type} {w : World} {B sz bts : Nat} {enc : α → List Value} {ok : α → Prop} {s : SL α} {pv : α → List PV} (h : SLok w B sz bts enc ok s)
 (hp : ∀ x ∈ s.xs, ok x → (pv x).length = sz ∧ ∀ (j : Nat) p u, (pv x)[j]? = some p → (enc x)[j]? = some u → RelP w (· < B) p u) : RelP w (· < B) (.sl sz (s.xs.map pv)) s.val := by
 simp only [RelP]
 refine ⟨s.a, s.c, by simp [SL.val], by simpa using h.cap, h.max, ?_⟩
 rcases h.els with h1 | ⟨b, o, ha, hb, hc⟩
 ·exact .inl (by rw [h1]; rfl)
 ·refine .inr ⟨b, o, ha, hb, rel_e s.xs o hc fun x hx => ?_⟩
  obtain ⟨h1, h2⟩ := h.each x hx
  obtain ⟨h3, h4⟩ := hp x hx h1
  exact ⟨h3, h2, h4⟩
theorem spec_law {P : Program} {f : FuncId} {args : List AV} (S : Spec P f args [] (B true) []) {w : World} {vs : List Value} (hr : RelL (· < 0) w (· < w.heap.size) (fun _ => none) args vs) :
 Calls P f vs.toArray w fun e w' => e = .returned (.bool true) ∧ Below w.heap.size w w' := by
 have M : MemOk w (inB fun _ => none) (· < ([] : List Chunk).length) (· < w.heap.size) (fun _ => none) (nth []) w :=
  ⟨Nat.le_refl _, rfl, rfl, rfl, fun _ _ _ => rfl, fun _ h => h, fun _ _ h => by simp at h, fun _ h => absurd rfl h, fun _ _ _ _ _ h => by simp at h, fun _ _ _ h => by simp at h⟩
 refine (S.2.2 w (· < w.heap.size) (fun _ => none) vs M hr).mono ?_
 rintro e w' ⟨v, F', β', rfl, M', hv, _⟩
 refine ⟨by rw [relB.1 hv], M'.os, M'.tape, M'.output, M'.size, fun b hb => M'.frame b hb ?_⟩
 rintro ⟨i, bd, h, _⟩
 simp at h
theorem relL_nil {U F : Nat → Prop} {β : Nat → Option Bind} {w : World} : RelL U w F β [] [] := by simp only [RelL]
theorem relL_cons {U F : Nat → Prop} {β : Nat → Option Bind} {w : World} {x : AV} {xs : List AV} {v : Value} {vs : List Value} (h1 : RelA U w F β x v) (h2 : RelL U w F β xs vs) : RelL U w F β (x :: xs) (v :: vs) := by
 simp only [RelL]; exact ⟨v, vs, rfl, h1, h2⟩
theorem relA_c {U F : Nat → Prop} {β : Nat → Option Bind} {w : World} {p : PV} {v : Value} (h : RelP w F p v) : RelA U w F β (.c p) v := by simp only [RelA]; exact h
theorem relP_v {F : Nat → Prop} {w : World} {v : Value} (h : v.oneCell' = true) : RelP w F (.v v) v := by simp [RelP, h]
end Go.Proofs.Ytddbnknkjaffbaa
namespace Go.Proofs.Ytddbnknkjaffbaa
set_option linter.all false
open Go.RowKit Go.Shelf Go.Sort
set_option maxRecDepth 100000
set_option maxHeartbeats 1000000
theorem putV_at (w : World) (b : Nat) (t : TypeId) (cur : Array Value) (d : Array Value) (h : w.heap[b]? = some (.cells cur t (0, 0))) (hl : d.size ≤ cur.size) :
 ∃ cur', (Go.Sort.putRow id w b 0 d).heap[b]? = some (.cells cur' t (0, 0)) ∧ cur'.size = cur.size ∧ ∀ j (hj : j < d.size), cur'[j]? = some d[j] := by
 refine ⟨Go.Sort.putCells id 0 d cur, ?_, by simp [Go.Sort.putCells], fun j hj => ?_⟩
 ·simp [Go.Sort.putRow, Go.Sort.mapBlock, Array.getElem?_modify, h, Go.Sort.onCells]
 ·unfold Go.Sort.putCells
  have hc : j < cur.size := by omega
  rw [Array.getElem?_mapIdx, Array.getElem?_eq_getElem hc]
  simp [hj]
theorem putV_rest (w : World) (b : Nat) (d : Array Value) : (Go.Sort.putRow id w b 0 d).os = w.os ∧ (Go.Sort.putRow id w b 0 d).tape = w.tape ∧ (Go.Sort.putRow id w b 0 d).output = w.output ∧ (Go.Sort.putRow id w b 0 d).heap.size = w.heap.size ∧ ∀ k, k ≠ b → (Go.Sort.putRow id w b 0 d).heap[k]? = w.heap[k]? := by
 refine ⟨rfl, rfl, rfl, by simp [Go.Sort.putRow, Go.Sort.mapBlock], fun k hk => ?_⟩
 simp [Go.Sort.putRow, Go.Sort.mapBlock, Array.getElem?_modify, Ne.symm hk]
section
variable {P : Program} {ρ : Ren} {α : Type} [Inhabited α]
def CmpAll (P : Program) (g : Nat) (enc : α → List Value) (cf : α → α → Int) : Prop :=
 ∀ (w : World) (x y : α), Calls P g #[.agg (enc x).toArray, .agg (enc y).toArray] w fun e w' => e = .returned (.int .i64 (cf x y)) ∧ ∃ q os', w' = grow (w.drewN q) os'
theorem sort_s (L : SlLaysF0.n6 P ρ) (hent : Enters P (ρ.f 6)) (k : Nat) (hk1 : 0 < k) (aE : ∀ w, (isAgg (ρ.t 24)).run P w = .ok true w) (zE : ∀ w, (Go.sizeOf (ρ.t 24)).run P w = .ok k w) (enc : α → List Value) (hk : ∀ x, (enc x).length = k) (h1 : ∀ x, ∀ v ∈ enc x, v.oneCell' = true) (cf : α → α → Int) (hO : SWO (ltOf cf)) (g : Nat)
 (eg : ∀ args w, (callFunc g args).run P w = .ok (.enter g args) w) (hcmp : CmpAll P g enc cf) (e : TypeId) (xs ys : List α) (h0 : 0 < xs.length) (hl : xs.length < 4611686018427387904) (hys : ∀ d' : Array α, PermIn 0 xs.length xs.toArray d' → SortedIn (ltOf cf) 0 xs.length d' → d'.toList = ys) :
 Spec P (ρ.f 6) [.own 0, .clo (.func g) [] []] [.row e k (xs.map fun x => (enc x).map PV.v)] (.tup []) [.row e k (ys.map fun x => (enc x).map PV.v)] := by
 refine ⟨hent, by simp, fun w F β vs M hv => ?_⟩
 simp only [RelL] at hv
 obtain ⟨v0, _, rfl, hv0, u1, _, rfl, hu1, rfl⟩ := hv
 simp only [RelA, RelL] at hu1
 obtain ⟨fs, cs, rfl, hfs, hcs⟩ := hu1
 obtain rfl : fs = #[] := by simpa using hfs
 obtain rfl : cs = #[] := by simpa using hcs
 obtain ⟨b0, hb0, H0⟩ := M.ch 0 (by simp [nth])
 simp only [RelA] at hv0
 obtain rfl := hv0.2.2 b0 hb0
 change ChOk _ w F β b0 (.row e k (xs.map fun x => (enc x).map PV.v)) at H0
 obtain ⟨⟨z1, z2⟩, hn, hcl, hrow⟩ := H0
 rcases hrow with ⟨_, h, _⟩ | ⟨gb, cap, cur, hb, hvv, hg, hnc, hcm, hcs, hE⟩
 ·have hx : xs = [] := by simpa using h
  subst hx; simp at h0
 rw [List.length_map] at hvv hnc
 have hcell : ∀ i (hi : i < xs.length) j (hj : j < k), w.cell? ⟨gb, i * k + j, none⟩ = some (((enc xs[i])[j]'(by rw [hk]; exact hj))) := by
  intro i hi j hj
  obtain ⟨_, hC⟩ := hE.at i ((enc xs[i]).map PV.v) (by simp [hi])
  obtain ⟨u, hu, hr⟩ := hC.at j (.v ((enc xs[i])[j]'(by rw [hk]; exact hj))) (by simp [hk, hj])
  simp only [RelP] at hr
  rw [Nat.zero_add] at hu
  rw [hu, hr.1]
 have hflat : ∀ (d : Array α) i (hi : i < d.size) j (hj : j < k), (flatK enc k d)[i * k + j]! = (enc d[i])[j]'(by rw [hk]; exact hj) := by
  intro d i hi j hj
  have hlt : i * k + j < d.size * k := by
   calc i * k + j < i * k + k := by omega
    _ = (i + 1) * k := by rw [Nat.add_mul]; omega
    _ ≤ d.size * k := Nat.mul_le_mul_right _ hi
  rw [get_flatK _ _ _ _ hlt]
  have e1 : (i * k + j) / k = i := by rw [Nat.mul_comm, Nat.mul_add_div hk1, Nat.div_eq_of_lt hj]; rfl
  have e2 : (i * k + j) % k = j := by rw [Nat.mul_comm, Nat.mul_add_mod]; exact Nat.mod_eq_of_lt hj
  rw [e1, e2, getElem!_pos d i hi, getElem!_pos _ j (by rw [hk]; exact hj)]
 have hH : HoldsK enc k w gb 0 xs.toArray := by
  intro q hq
  have hq' : q < xs.length * k := by simpa using hq
  have hi : q / k < xs.length := Nat.div_lt_of_lt_mul (by rw [Nat.mul_comm]; exact hq')
  have hj : q % k < k := Nat.mod_lt _ hk1
  have hqe : q / k * k + q % k = q := by rw [Nat.mul_comm]; exact Nat.div_add_mod q k
  refine ⟨?_, by simp [World.frozen?, hg]⟩
  have a := hcell (q / k) hi (q % k) hj
  have b := hflat xs.toArray (q / k) (by simpa using hi) (q % k) hj
  rw [hqe] at a b
  rw [Nat.zero_add, a]
  simp only [id]
  rw [b]; simp
 have hlays : CmpLays P g #[] enc k cf gb 0 xs.toArray.size w := fun m os dk _ x y => by simpa using hcmp (sortWorldK enc k w gb 0 m dk os) x y
 have hgl : gb < w.heap.size := by
  rcases Nat.lt_or_ge gb w.heap.size with h | h
  ·exact h
  ·rw [Array.getElem?_eq_none h] at hg; cases hg
 have hC := AnyQ.slices_SortFunc L k aE zE enc hk h1 cf hO g #[] gb 0 cap xs.toArray w eg hlays hH hgl (by simpa using hl)
 rw [hvv]
 rw [show xs.toArray.size = xs.length from by simp] at hC
 refine hC.mono ?_
 rintro en w' ⟨rfl, d', n, os, hp, hso, rfl⟩
 have hd := hys d' hp hso
 have hds : d'.size = xs.length := by have := hp.1; simpa using this
 unfold sortWorldK putRowK
 obtain ⟨cur', a1, a2, a3⟩ := putV_at (Go.Sort.ahead w n) gb e cur (flatK enc k d') hg (by rw [size_flatK, hds, hcs]; exact Nat.mul_le_mul_right _ hnc)
 obtain ⟨r1, r2, r3, r4, r5⟩ := putV_rest (Go.Sort.ahead w n) gb (flatK enc k d')
 generalize Go.Sort.putRow id (Go.Sort.ahead w n) gb 0 (flatK enc k d') = w1 at *
 have hs1 : w1.heap.size = w.heap.size := r4
 have gh : ∀ b, b < w.heap.size → (grow w1 os).heap[b]? = w1.heap[b]? := fun b hb => by
  show (w1.heap ++ os)[b]? = _
  rw [Array.getElem?_append_left (by omega)]
 obtain ⟨S1, S2⟩ := M.step (w' := grow w1 os) (h' := nth [.row e k (ys.map fun x => (enc x).map PV.v)]) (β' := β) (F' := F) (U' := (· < 1)) (fun t => t = 0)
  (fun t _ => rfl)
  (fun t ht => by
   match t, ht with
   | 0, ht => exact (ht rfl).elim
   | t + 1, _ => simp [nth])
  r1 r2 r3 (by show w.heap.size ≤ (w1.heap ++ os).size; rw [Array.size_append, hs1]; omega)
  (fun b hb' hn => by
   rw [gh b hb', r5 b fun he => hn 0 b0 rfl hb0 (.inl (by rw [he]; exact hb))]; rfl)
  (fun t ht => ht) (fun b hb => hb) (fun b hb' => ⟨by show b < (w1.heap ++ os).size; rw [Array.size_append, hs1]; have := M.fin b hb'; omega, .inl hb'⟩)
  (fun t bd ht hu hb' => ⟨bd.bs, hb'⟩)
  (fun t bd ht hb' => by
   subst ht
   rw [hb0] at hb'; cases hb'
   refine ⟨by omega, fun b hq => ?_⟩
   obtain ⟨m1, m2, m3⟩ := M.off 0 b0 b hb0 hq
   exact ⟨by show b < (w1.heap ++ os).size; rw [Array.size_append, hs1]; omega, m1, .inr ⟨0, b0, rfl, hb0, hq⟩⟩)
  (fun t t' bj bj' b ht ht' _ _ _ _ => by rw [ht, ht'])
  (fun E t ht hdd => by
   subst ht
   refine ⟨b0, hb0, ?_⟩
   change ChOk _ (grow w1 os) F β b0 (.row e k (ys.map fun x => (enc x).map PV.v))
   have hyl : ys.length = xs.length := by rw [← hd]; simpa using hds
   refine ⟨⟨z1, z2⟩, by rw [hn]; simp [hyl], fun cs hcs' => ?_, .inr ⟨gb, cap, cur', hb, by rw [hvv, List.length_map, hyl], by rw [gh gb hgl]; exact a1, by rw [List.length_map, hyl]; exact hnc, hcm, by rw [a2]; exact hcs, RelE.of fun i cs hi => ?_⟩⟩
   ·obtain ⟨x, _, rfl⟩ := List.mem_map.1 hcs'; simp [hk]
   ·rw [List.getElem?_map] at hi
    cases hz : ys[i]? with
    | none => rw [hz] at hi; simp at hi
    | some z =>
     rw [hz] at hi
     obtain rfl : (enc z).map PV.v = cs := by simpa using hi
     refine ⟨by simp [hk], RelC.of fun j x hj => ?_⟩
     rw [List.getElem?_map] at hj
     obtain ⟨hil, hz'⟩ := List.getElem?_eq_some_iff.1 hz
     cases hx : (enc z)[j]? with
     | none => rw [hx] at hj; simp at hj
     | some v =>
      rw [hx] at hj
      obtain rfl : PV.v v = x := by simpa using hj
      obtain ⟨hjl, hv'⟩ := List.getElem?_eq_some_iff.1 hx
      have hjk : j < k := by rw [← hk z]; exact hjl
      have hid : i < d'.size := by omega
      have hlt : i * k + j < d'.size * k := by
       calc i * k + j < i * k + k := by omega
        _ = (i + 1) * k := by rw [Nat.add_mul]; omega
        _ ≤ d'.size * k := Nat.mul_le_mul_right _ hid
      refine ⟨v, ?_, by simp only [RelP]; exact ⟨trivial, h1 z v (List.mem_of_getElem? hx)⟩⟩
      have c1 := a3 (i * k + j) (by rw [size_flatK]; exact hlt)
      have c2 := hflat d' i hid j hjk
      rw [getElem!_pos _ _ (by rw [size_flatK]; exact hlt)] at c2
      have hdi : d'[i] = z := by
       have : d'.toList[i]'(by simpa using hid) = z := by
        have := hz'
        subst hd
        simpa using this
       simpa using this
      rw [c2] at c1
      simp only [hdi, hv'] at c1
      simp only [World.cell?, gh gb hgl, a1, Nat.zero_add]
      simpa using c1)
 refine ⟨_, F, _, rfl, S1, ?_, fun _ h => h, fun _ h => .inl h, fun t bd ht hb' => ⟨bd.bs, hb'⟩⟩
 simp only [RelA, RelL]
 exact ⟨_, rfl, rfl⟩
end
end Go.Proofs.Ytddbnknkjaffbaa
namespace Go.Proofs.Ytddbnknkjaffbaa
set_option linter.all false
open Go.RowKit Go.Sort
set_option maxRecDepth 100000
def cmpI (a b : Int) : Int := if a < b then -1 else if b < a then 1 else 0
def cfT (x y : Sco) : Int := if cmpI y.points x.points ≠ 0 then cmpI y.points x.points else if cmpI y.won x.won ≠ 0 then cmpI y.won x.won else cmpI x.player y.player
theorem cmpI_lt (a b : Int) : cmpI a b < 0 ↔ a < b := by unfold cmpI; split <;> (try split) <;> omega
theorem cmpI_0 (a b : Int) : cmpI a b = 0 ↔ a = b := by unfold cmpI; split <;> (try split) <;> omega
theorem ltOf_cfT (x y : Sco) : ltOf cfT x y = scoLt x y := by
 rw [Bool.eq_iff_iff, scoLt_iff]
 unfold ltOf
 rw [decide_eq_true_iff]
 unfold cfT
 have a1 := cmpI_lt y.points x.points; have a2 := cmpI_0 y.points x.points
 have b1 := cmpI_lt y.won x.won; have b2 := cmpI_0 y.won x.won
 have c1 := cmpI_lt x.player y.player
 split
 ·omega
 ·split <;> omega
theorem ltOf_eq : ltOf cfT = scoLt := by funext x y; exact ltOf_cfT x y
theorem swo_cfT : SWO (ltOf cfT) := by
 rw [ltOf_eq]
 refine ⟨scoLt_irrefl, fun x y z => scoLt_trans, fun x y z h1 h2 => ?_⟩
 rw [← Bool.not_eq_true, scoLt_iff] at *
 omega
theorem table_sort (n : Nat) (l : List Gam) (d' : Array Sco) (hp : PermIn 0 (scoN n l).length (scoN n l).toArray d') (hs : SortedIn (ltOf cfT) 0 (scoN n l).length d') : d'.toList = tabT (scoN n l) := by
 obtain ⟨p1, -, p3⟩ := hp
 have hsz : d'.size = (scoN n l).length := by simpa using p1
 refine sort_is (scoN n l) d'.toList (scoN_up n l) ?_ fun i j hi hj hij => ?_
 ·have e1 : d'.extract 0 (scoN n l).length = d' := by rw [← hsz]; exact Array.extract_size
  have e2 : (scoN n l).toArray.extract 0 (scoN n l).length = (scoN n l).toArray := by
   have := Array.extract_size (xs := (scoN n l).toArray)
   simpa using this
  rw [e1, e2] at p3
  simpa using p3
 ·have := hs i j (Nat.zero_le _) hij (by rw [← hsz]; simpa using hj)
  rw [ltOf_eq] at this
  have hi' : i < d'.size := by simpa using hi
  have hj' : j < d'.size := by simpa using hj
  rw [getElem!_pos d' i hi', getElem!_pos d' j hj'] at this
  simpa using this
end Go.Proofs.Ytddbnknkjaffbaa
namespace Go.Proofs.Ytddbnknkjaffbaa
set_option linter.all false
open Go.Shelf
set_option maxRecDepth 100000
def laySort_ren : Go.Shelf.Ren := ⟨fun | 6 => 11 | 15 => 20 | 14 => 19 | 28 => 32 | 29 => 33 | 20 => 24 | 21 => 25 | 22 => 26 | 23 => 27 | 24 => 28 | 25 => 29 | 26 => 30 | 27 => 31 | 46 => 35 | 47 => 36 | 48 => 37 | 49 => 38 | 50 => 39 | 57 => 41 | n => n, fun | 22 => 33 | 24 => 37 | 25 => 41 | 3 => 3 | 39 => 50 | 0 => 0 | 53 => 61 | 55 => 63 | 4 => 4 | 46 => 54 | 45 => 53 | 50 => 58 | 5 => 5 | 9 => 9 | 66 => 64 | 70 => 68 | 76 => 71 | 77 => 28 | n => n, fun | n => n⟩
theorem laySort : Go.Proofs.SlLaysF0.n6 Try.prog laySort_ren := {
 mixed := by kernel_rfl
 f6 := ⟨Try.f11.name, by decide, Try.func11.trans (congrArg some (by kernel_rfl))⟩
 f14 := ⟨Try.f19.name, by decide, Try.func19.trans (congrArg some (by kernel_rfl))⟩
 f15 := Try.func20.trans (congrArg some (by kernel_rfl))
 f20 := ⟨Try.f24.name, by decide, Try.func24.trans (congrArg some (by kernel_rfl))⟩
 f21 := ⟨Try.f25.name, by decide, Try.func25.trans (congrArg some (by kernel_rfl))⟩
 f22 := ⟨Try.f26.name, by decide, Try.func26.trans (congrArg some (by kernel_rfl))⟩
 f23 := ⟨Try.f27.name, by decide, Try.func27.trans (congrArg some (by kernel_rfl))⟩
 f24 := ⟨Try.f28.name, by decide, Try.func28.trans (congrArg some (by kernel_rfl))⟩
 f25 := ⟨Try.f29.name, by decide, Try.func29.trans (congrArg some (by kernel_rfl))⟩
 f26 := ⟨Try.f30.name, by decide, Try.func30.trans (congrArg some (by kernel_rfl))⟩
 f27 := ⟨Try.f31.name, by decide, Try.func31.trans (congrArg some (by kernel_rfl))⟩
 f28 := Try.func32.trans (congrArg some (by kernel_rfl))
 f29 := Try.func33.trans (congrArg some (by kernel_rfl))
 f46 := ⟨Try.f35.name, by decide, Try.func35.trans (congrArg some (by kernel_rfl))⟩
 f47 := Try.func36.trans (congrArg some (by kernel_rfl))
 f48 := Try.func37.trans (congrArg some (by kernel_rfl))
 f49 := ⟨Try.f38.name, by decide, Try.func38.trans (congrArg some (by kernel_rfl))⟩
 f50 := ⟨Try.f39.name, by decide, Try.func39.trans (congrArg some (by kernel_rfl))⟩
 f57 := ⟨Try.f41.name, by decide, Try.func41.trans (congrArg some (by kernel_rfl))⟩
 t0 := Try.underlying0
 a0 := Try.isAgg0
 z0 := Try.sizeOf0
 v0 := Try.zeroValue0
 t3 := Try.underlying3
 a3 := Try.isAgg3
 z3 := Try.sizeOf3
 v3 := Try.zeroValue3
 t4 := Try.underlying4
 a4 := Try.isAgg4
 z4 := Try.sizeOf4
 v4 := Try.zeroValue4
 t5 := Try.underlying5
 a5 := Try.isAgg5
 z5 := Try.sizeOf5
 v5 := Try.zeroValue5
 t9 := Try.underlying9
 a9 := Try.isAgg9
 z9 := Try.sizeOf9
 v9 := Try.zeroValue9
 t22 := Try.underlying33
 a22 := Try.isAgg33
 z22 := Try.sizeOf33
 v22 := Try.zeroValue33
 t25 := Try.underlying41
 a25 := Try.isAgg41
 z25 := Try.sizeOf41
 v25 := Try.zeroValue41
 t39 := Try.underlying50
 a39 := Try.isAgg50
 z39 := Try.sizeOf50
 v39 := Try.zeroValue50
 t45 := Try.underlying53
 a45 := Try.isAgg53
 z45 := Try.sizeOf53
 v45 := Try.zeroValue53
 t46 := Try.underlying54
 a46 := Try.isAgg54
 z46 := Try.sizeOf54
 v46 := Try.zeroValue54
 t50 := Try.underlying58
 a50 := Try.isAgg58
 z50 := Try.sizeOf58
 v50 := Try.zeroValue58
 t53 := Try.underlying61
 a53 := Try.isAgg61
 z53 := Try.sizeOf61
 v53 := Try.zeroValue61
 t55 := Try.underlying63
 a55 := Try.isAgg63
 z55 := Try.sizeOf63
 v55 := Try.zeroValue63
 t66 := Try.underlying64
 a66 := Try.isAgg64
 z66 := Try.sizeOf64
 v66 := Try.zeroValue64
 t70 := Try.underlying68
 a70 := Try.isAgg68
 z70 := Try.sizeOf68
 v70 := Try.zeroValue68
 t76 := Try.underlying71
 a76 := Try.isAgg71
 z76 := Try.sizeOf71
 v76 := Try.zeroValue71
 t77 := Try.underlying28
 a77 := Try.isAgg28
 z77 := Try.sizeOf28
 v77 := Try.zeroValue28 }
end Go.Proofs.Ytddbnknkjaffbaa
namespace Go.Proofs
open Go.Shelf
def Try.lays122_ren : Go.Shelf.Ren := ⟨fun | 122 => 14 | 215 => 21 | n => n, fun | 3 => 3 | 4 => 4 | n => n, fun | n => n⟩
theorem Try.lays122 : Go.Proofs.Lays.n122 Try.prog Try.lays122_ren := {
 mixed := by kernel_rfl
 f122 := Try.func14.trans (congrArg some (by kernel_rfl))
 f215 := Try.func21.trans (congrArg some (by kernel_rfl))
 t3 := Try.underlying3
 a3 := Try.isAgg3
 z3 := Try.sizeOf3
 v3 := Try.zeroValue3
 t4 := Try.underlying4
 a4 := Try.isAgg4
 z4 := Try.sizeOf4
 v4 := Try.zeroValue4 }
open Go.RowKit in
theorem Try.cmp_Compare_int (x y : Int) (w : World) :
 Calls Try.prog 14 #[.int .i64 x, .int .i64 y] w fun e w' => e = .returned (.int .i64 (Lib.compareInt x y)) ∧ w' = w := Any.cmp_Compare_int Try.lays122 x y w
end Go.Proofs
namespace Go.Proofs.Ytddbnknkjaffbaa
set_option linter.all false
open Go.RowKit Go.Shelf Go.Sort
set_option maxRecDepth 100000
set_option maxHeartbeats 1000000
def or3 (x y z : Int) : Int := if x ≠ 0 then x else if y ≠ 0 then y else z
theorem or_k (b : Nat) (x y z : Int) (w : World) (h0 : w.cell? ⟨b, 0, none⟩ = some (.int .i64 x)) (h1 : w.cell? ⟨b, 1, none⟩ = some (.int .i64 y)) (h2 : w.cell? ⟨b, 2, none⟩ = some (.int .i64 z)) : Calls Try.prog 13 #[.slice (some ⟨b, 0, none⟩) 3 3] w fun e w' => e = .returned (.int .i64 (or3 x y z)) ∧ w' = w := by
 have H0 := Lib.hid h0; have H1 := Lib.hid h1; have H2 := Lib.hid h2
 clear h0 h1 h2
 go_enter Try.func13, Try.ntmps13
 go_wp2
 go_loop [8] (fun i => ∃ k : Nat, k ≤ 3 ∧ i = .int .i64 k ∧ (1 ≤ k → x = 0) ∧ (2 ≤ k → y = 0) ∧ (3 ≤ k → z = 0)) (fun i => 3 - (intOf i).toNat)
 case atStart => exact ⟨0, by omega, rfl, by omega, by omega, by omega⟩
 case round =>
  obtain ⟨k, hk, rfl, k1, k2, k3⟩ := hrel
  have hk4 : k = 0 ∨ k = 1 ∨ k = 2 ∨ k = 3 := by omega
  rcases hk4 with rfl | rfl | rfl | rfl
  ·have h := H0.out
   clear H0 H1 H2 k1 k2 k3
   go_wp2
   ·rename_i hne _
    have hne := bne_iff_ne.1 hne
    go_ret
    exact ⟨by unfold or3; simp [hne], rfl⟩
   ·rename_i he
    have he := bne_eq_false_iff_eq.1 he
    exact ⟨⟨1, by omega, rfl, fun _ => he, by omega, by omega⟩, by simp [intOf]⟩
  ·have h := H1.out
   obtain rfl := k1 (by omega)
   clear H0 H1 H2 k1 k2 k3
   go_wp2
   ·rename_i hne _
    have hne := bne_iff_ne.1 hne
    go_ret
    exact ⟨by unfold or3; simp [hne], rfl⟩
   ·rename_i he
    have he := bne_eq_false_iff_eq.1 he
    exact ⟨⟨2, by omega, rfl, fun _ => trivial, fun _ => he, by omega⟩, by simp [intOf]⟩
  ·have h := H2.out
   obtain rfl := k1 (by omega)
   obtain rfl := k2 (by omega)
   clear H0 H1 H2 k1 k2 k3
   go_wp2
   ·rename_i hne _
    have hne := bne_iff_ne.1 hne
    go_ret
    exact ⟨by unfold or3; simp [hne], rfl⟩
   ·rename_i he
    have he := bne_eq_false_iff_eq.1 he
    exact ⟨⟨3, by omega, rfl, fun _ => trivial, fun _ => trivial, fun _ => he⟩, by simp [intOf]⟩
  ·obtain rfl := k1 (by omega)
   obtain rfl := k2 (by omega)
   obtain rfl := k3 (by omega)
   clear H0 H1 H2 k1 k2 k3
   go_wp2
   go_ret
   exact ⟨rfl, rfl⟩
theorem cmpI_eq (x y : Int) : Lib.compareInt x y = cmpI x y := by
 unfold Lib.compareInt cmpI
 rfl
theorem cfT_or (x y : Sco) : or3 (cmpI y.points x.points) (cmpI y.won x.won) (cmpI x.player y.player) = cfT x y := rfl
def scoE (x : Sco) : List Value := [.int .i64 x.player, .int .i64 x.points, .int .i64 x.won]
theorem two_x (w : World) (c d : Array Value) (t : TypeId) (i : Nat) (v : Value) (h : c[i]? = some v) : ((w.alloc (.cells c t)).alloc (.cells d t)).drew.cell? ⟨w.heap.size, i, none⟩ = some v := by
 show ((w.alloc (.cells c t)).alloc (.cells d t)).cell? ⟨w.heap.size, i, none⟩ = some v
 rw [World.cell?_alloc_past _ _ _ (by show w.heap.size < (w.heap.push _).size; rw [Array.size_push]; omega), World.cell?_alloc_at _ _ _ _ rfl, h]
theorem two_y (w : World) (c d : Array Value) (t : TypeId) (i : Nat) (v : Value) (h : d[i]? = some v) : ((w.alloc (.cells c t)).alloc (.cells d t)).drew.cell? ⟨w.heap.size + 1, i, none⟩ = some v := by
 show ((w.alloc (.cells c t)).alloc (.cells d t)).cell? ⟨w.heap.size + 1, i, none⟩ = some v
 rw [World.cell?_alloc_at _ _ _ _ (by show w.heap.size + 1 = (w.heap.push _).size; rw [Array.size_push]), h]
theorem two_g (w : World) (a b : Obj) : ((w.alloc a).alloc b).drew = grow (w.drewN 1) #[a, b] := by
 rw [alloc_eq_grow, alloc_eq_grow, grow_grow]; rfl
theorem cmpT_c (x y : Sco) (w : World) : Calls Try.prog 12 #[.agg #[.int .i64 x.player, .int .i64 x.points, .int .i64 x.won], .agg #[.int .i64 y.player, .int .i64 y.points, .int .i64 y.won]] w fun e w' => e = .returned (.int .i64 (cfT x y)) ∧ ∃ q os', w' = grow (w.drewN q) os' := by
 have hcon := fun a b W' => Try.cmp_Compare_int a b W'
 change ∀ a b W', Calls Try.prog 14 _ _ _ at hcon
 rw [← cfT_or]
 obtain ⟨x1, x2, x3⟩ := x
 obtain ⟨y1, y2, y3⟩ := y
 simp only
 have e1 := cmpI_eq y2 x2; have e2 := cmpI_eq y3 x3; have e3 := cmpI_eq x1 y1
 have c1 := hcon y2 x2; have c2 := hcon y3 x3; have c3 := hcon x1 y1
 rw [e1] at c1; rw [e2] at c2; rw [e3] at c3
 generalize cmpI y2 x2 = r1 at *
 generalize cmpI y3 x3 = r2 at *
 generalize cmpI x1 y1 = r3 at *
 clear e1 e2 e3 hcon
 go_enter Try.func12, Try.ntmps12
 go_wp2
 have fx1 := two_x w #[Value.int IntKind.i64 x1, Value.int IntKind.i64 x2, Value.int IntKind.i64 x3] #[Value.int IntKind.i64 y1, Value.int IntKind.i64 y2, Value.int IntKind.i64 y3] 37 0 (.int .i64 x1) rfl
 have fx2 := two_x w #[Value.int IntKind.i64 x1, Value.int IntKind.i64 x2, Value.int IntKind.i64 x3] #[Value.int IntKind.i64 y1, Value.int IntKind.i64 y2, Value.int IntKind.i64 y3] 37 1 (.int .i64 x2) rfl
 have fx3 := two_x w #[Value.int IntKind.i64 x1, Value.int IntKind.i64 x2, Value.int IntKind.i64 x3] #[Value.int IntKind.i64 y1, Value.int IntKind.i64 y2, Value.int IntKind.i64 y3] 37 2 (.int .i64 x3) rfl
 have fy1 := two_y w #[Value.int IntKind.i64 x1, Value.int IntKind.i64 x2, Value.int IntKind.i64 x3] #[Value.int IntKind.i64 y1, Value.int IntKind.i64 y2, Value.int IntKind.i64 y3] 37 0 (.int .i64 y1) rfl
 have fy2 := two_y w #[Value.int IntKind.i64 x1, Value.int IntKind.i64 x2, Value.int IntKind.i64 x3] #[Value.int IntKind.i64 y1, Value.int IntKind.i64 y2, Value.int IntKind.i64 y3] 37 1 (.int .i64 y2) rfl
 have fy3 := two_y w #[Value.int IntKind.i64 x1, Value.int IntKind.i64 x2, Value.int IntKind.i64 x3] #[Value.int IntKind.i64 y1, Value.int IntKind.i64 y2, Value.int IntKind.i64 y3] 37 2 (.int .i64 y3) rfl
 have hG := Lib.hid (two_g w (Obj.cells #[Value.int IntKind.i64 x1, Value.int IntKind.i64 x2, Value.int IntKind.i64 x3] 37) (Obj.cells #[Value.int IntKind.i64 y1, Value.int IntKind.i64 y2, Value.int IntKind.i64 y3] 37))
 generalize ((w.alloc (Obj.cells #[Value.int IntKind.i64 x1, Value.int IntKind.i64 x2, Value.int IntKind.i64 x3] 37)).alloc (Obj.cells #[Value.int IntKind.i64 y1, Value.int IntKind.i64 y2, Value.int IntKind.i64 y3] 37)) = V at *
 refine wp_region_still_tail 15 (by kernel_rfl) (by kernel_rfl) ?_
 simp only [List.take_succ_cons, List.take_zero, List.drop_succ_cons, List.drop_zero, show (({ heap := V.heap, tape := V.tape, drawn := V.drawn + 1, os := V.os, output := V.output } : World) = V.drew) from rfl]
 generalize V.drew = W at *
 iterate 4 still_step
 still_call c1 _
 iterate 4 still_step
 still_call c2 _
 iterate 4 still_step
 still_call c3 _
 refine wpStill_nil ?_
 have cO := or_k W.heap.size r1 r2 r3 (W.alloc (Obj.cells #[Value.int IntKind.i64 r1, Value.int IntKind.i64 r2, Value.int IntKind.i64 r3] 3)) (by rw [World.cell?_alloc_at _ _ _ _ rfl]; rfl) (by rw [World.cell?_alloc_at _ _ _ _ rfl]; rfl) (by rw [World.cell?_alloc_at _ _ _ _ rfl]; rfl)
 go_wp2_with (go_at_call 13; refine cO.mono ?_; rintro e w' ⟨rfl, rfl⟩)
 go_ret
 exact ⟨rfl, 1, _, (alloc_eq_grow W _).trans ((congrArg (fun u => grow u _) hG.out).trans (grow_grow _ _ _))⟩
theorem cmpAll_T : CmpAll Try.prog 12 scoE cfT := fun w x y => cmpT_c x y w
end Go.Proofs.Ytddbnknkjaffbaa
namespace Go.Proofs.Ytddbnknkjaffbaa
set_option linter.all false
open Go.RowKit
theorem look_fz (Z : List Nat) (h : Nat → Chunk) : ∀ (l : List (Nat × AV)) (t : Nat), look (l.map fun p => (p.1, fz Z h p.2)) t = fz Z h (look l t)
 | [], t => by simp only [List.map_nil, look, fz]
 | (k, x) :: r, t => by
  simp only [List.map_cons, look]
  by_cases e : k = t
  ·rw [if_pos e, if_pos e]
  ·rw [if_neg e, if_neg e]; exact look_fz Z h r t
theorem To.frz {k : Nat} {s : St} (Z : List Nat) : ToK k s ⟨s.t.map fun p => (p.1, fz Z (lookC s.h) p.2), deadsOf Z ++ s.h, s.n⟩ := by
 intro H F β a w hk C
 have M := fz_mem C.m Z
 have e : lookC (deadsOf Z ++ s.h) = fzH Z (lookC s.h) := by
  rw [← upd_look, upd_deads]
 refine ⟨fzF Z F β, fzB Z β, fun t => ?_, by rw [e]; exact M, C.nt, C.d.more fun _ hb => .inl hb, fun b hb => .inl (C.f b hb), fun b hb => ?_, fun i bd hi hb => C.e i bd hi (fzB_some hb).2, C.k⟩
 ·simp only [look_fz]
  exact fz_run C.m (fun _ _ => rfl) Z _ _ (C.t t)
 ·rcases hb with h1 | ⟨id, bd, _, h2, h3⟩
  ·exact C.g b h1
  ·exact .inr (C.m.off id bd b h2 (.inl h3)).2.2
end Go.Proofs.Ytddbnknkjaffbaa
namespace Go.Proofs.Ytddbnknkjaffbaa
set_option linter.all false
open Go.RowKit Go.Shelf
set_option maxRecDepth 100000
set_option maxHeartbeats 1000000
theorem setCells_at (b : Nat) (t : TypeId) : ∀ (vs : List Value) (o : Nat) (w : World) (cur : Array Value), w.heap[b]? = some (.cells cur t (0, 0)) → o + vs.length ≤ cur.size →
 ∃ cur', (w.setCells b o vs).heap[b]? = some (.cells cur' t (0, 0)) ∧ cur'.size = cur.size ∧ ∀ j, cur'[j]? = if o ≤ j ∧ j < o + vs.length then vs[j - o]? else cur[j]?
 | [], o, w, cur, h, _ => ⟨cur, h, rfl, fun j => by rw [if_neg (by simp only [List.length_nil]; omega)]⟩
 | v :: r, o, w, cur, h, hl => by
  simp only [List.length_cons] at hl
  have h1 : (w.setCell ⟨b, o, none⟩ v).heap[b]? = some (.cells (cur.setIfInBounds o v) t (0, 0)) := by
   simp [World.setCell, Array.getElem?_modify, h]
  obtain ⟨cur', e1, e2, e3⟩ := setCells_at b t r (o + 1) _ _ h1 (by simp; omega)
  refine ⟨cur', e1, by simpa using e2, fun j => ?_⟩
  rw [e3 j]
  simp only [List.length_cons]
  by_cases hj : j = o
  ·subst hj
   rw [if_neg (by omega), if_pos (by omega), Nat.sub_self, Array.getElem?_setIfInBounds_self, if_pos (by omega)]; rfl
  ·rw [Array.getElem?_setIfInBounds_ne (Ne.symm hj)]
   by_cases h2 : o + 1 ≤ j ∧ j < o + 1 + r.length
   ·rw [if_pos h2, if_pos (by omega), show j - o = (j - (o + 1)) + 1 from by omega, List.getElem?_cons_succ]
   ·rw [if_neg h2, if_neg (by omega)]
theorem setCells_rest (b : Nat) : ∀ (vs : List Value) (o : Nat) (w : World), (w.setCells b o vs).os = w.os ∧ (w.setCells b o vs).tape = w.tape ∧ (w.setCells b o vs).output = w.output ∧ (w.setCells b o vs).heap.size = w.heap.size ∧ ∀ k, k ≠ b → (w.setCells b o vs).heap[k]? = w.heap[k]?
 | [], _, _ => ⟨rfl, rfl, rfl, rfl, fun _ _ => rfl⟩
 | v :: r, o, w => by
  obtain ⟨h1, h2, h3, h4, h5⟩ := setCells_rest b r (o + 1) (w.setCell ⟨b, o, none⟩ v)
  refine ⟨h1, h2, h3, by rw [World.setCells, h4]; simp [World.setCell], fun k hk => ?_⟩
  rw [World.setCells, h5 k hk]
  simp [World.setCell, Array.getElem?_modify, Ne.symm hk]
def RowOut (w : World) (t : TypeId) (own : Option Nat) (vals : List Value) (v' : Value) (w' : World) : Prop :=
 w'.ownsRow 0 t 1 v' vals.length vals ∧ w.grownBy w' own ∧ (v'.ownBlock = own ∨ ∀ q, v'.ownBlock = some q → w.heap.size ≤ q)
section
variable {P : Program} {ρ : Ren}
theorem alloc_grown (w : World) (o : Obj) (row : Option Nat) : w.grownBy (w.drew.alloc o) row := ⟨rfl, rfl, rfl, by show w.heap.size ≤ (w.heap.push o).size; simp, fun k hk _ => heap_alloc_old w o hk⟩
theorem insert_calls (L : Lays2.n21 P ρ) (w : World) (v0 : Value) (cs : List Value) (hown : w.ownsRow 0 (ρ.t 3) 1 v0 cs.length cs) (h1c : ∀ v ∈ cs, v.oneCell' = true) (i : Nat) (hi : i ≤ cs.length) (hsm : cs.length ≤ 1000000) (vb c1 : Nat) (cur1 : Array Value) (T1 : TypeId) (hv : w.heap[vb]? = some (.cells cur1 T1 (0, 0))) (x : Value) (hx : cur1[0]? = some x) (hx1 : x.oneCell' = true) (hne : v0.ownBlock ≠ some vb) :
 Calls P (ρ.f 21) #[v0, .int .i64 i, .slice (some ⟨vb, 0, none⟩) 1 c1] w fun e w' => ∃ v', e = .returned v' ∧ RowOut w (ρ.t 3) v0.ownBlock (cs.take i ++ x :: cs.drop i) v' w' := by
 have hvs : ∀ j v, [x][j]? = some v → w.cell? ⟨vb, 0 + j, none⟩ = some v := by
  intro j v hj
  cases j with
  | zero => simp at hj; subst hj; simp [World.cell?, hv, hx]
  | succ j => simp at hj
 have h1v : ∀ v ∈ [x], v.oneCell' = true := by simpa using hx1
 have hlen : (cs.take i ++ x :: cs.drop i).length = cs.length + 1 := by simp; omega
 have hgc := grownCap_ge w (cs.length + 1)
 have grown : ∀ (cur : Array Value) (cap : Nat), cur.size = cap → cs.length + 1 ≤ cap → cap ≤ maxLen → (∀ j, j < cs.length + 1 → cur[j]? = (cs.take i ++ x :: cs.drop i)[j]?) → (w.alloc (.cells cur (ρ.t 3))).ownsRow 0 (ρ.t 3) 1 (.slice (some ⟨w.heap.size, 0, none⟩) (cs.length + 1) cap) (cs.length + 1) (cs.take i ++ x :: cs.drop i) := by
  intro cur cap h1 h2 h3 h4
  refine ⟨by rw [hlen, Nat.mul_one], .inr ⟨_, cap, cur, rfl, Nat.zero_le _, heap_alloc_new w _, h2, h3, by rw [Nat.mul_one]; exact h1, ?_⟩⟩
  apply List.ext_getElem?
  intro j
  rw [Nat.mul_one, List.getElem?_take]
  split
  ·rename_i hj; rw [Array.getElem?_toList]; exact h4 j hj
  ·rename_i hj; rw [List.getElem?_eq_none (by omega)]
 have gmax : ∀ c, grownCap w (cs.length + 1) c (ρ.t 3) ≤ maxLen := fun c => grownCap_le_maxLen w _ _ _ (by unfold maxLen; omega)
 rcases hown.2 with ⟨rfl, hn⟩ | ⟨b, cap, cur, rfl, _, hg, hnc, hcm, hcs, htake⟩
 ·obtain rfl : cs = [] := List.eq_nil_of_length_eq_zero hn
  obtain rfl : i = 0 := by simpa using hi
  refine (Any2.slices_Insert_int_end_grow L none 0 0 vb 0 1 c1 [] [x] w (by omega) (by omega) (by omega) (by omega) rfl rfl (fun _ => rfl) (by simp) hvs h1v).mono ?_
  rintro e w' ⟨rfl, rfl⟩
  refine ⟨_, rfl, ?_, alloc_grown w _ _, .inr fun q hq => by simp [Value.ownBlock] at hq; omega⟩
  rw [hlen]
  exact grown _ _ (by simp [size_zeroCells, Value.cells]; have := hgc 0 (ρ.t 3); simp at this; omega) (hgc _ _) (gmax 0) fun j hj => by
   have : j = 0 := by simpa using hj
   subst this
   rw [Array.getElem?_append_left (by simp)]; simp
 ·have hcell : ∀ j v, cs[j]? = some v → w.cell? ⟨b, 0 + j, none⟩ = some v := by
   intro j v hj
   have := hown.cells (g := b) rfl j v hj
   rwa [Addr.add_lit] at this
  have hcur : ∀ j, j < cs.length → cur[j]? = cs[j]? := by
   intro j hj
   rw [← htake, List.getElem?_take, if_pos (by omega), Array.getElem?_toList]
  rw [Nat.mul_one] at hcs
  by_cases hroom : cs.length + 1 ≤ cap
  ·have fin : ∀ (W : World) (cur' : Array Value), W.heap[b]? = some (.cells cur' (ρ.t 3) (0, 0)) → cur'.size = cap → (∀ j, j < cs.length + 1 → cur'[j]? = (cs.take i ++ x :: cs.drop i)[j]?) → W.os = w.os → W.tape = w.tape → W.output = w.output → W.heap.size = w.heap.size → (∀ k, k ≠ b → W.heap[k]? = w.heap[k]?) → RowOut w (ρ.t 3) (some b) (cs.take i ++ x :: cs.drop i) (.slice (some ⟨b, 0, none⟩) (cs.length + 1) cap) W := by
    intro W cur' e1 e2 e3 e4 e5 e6 e7 e8
    refine ⟨⟨by rw [Nat.mul_one], .inr ⟨b, cap, cur', by rw [hlen], Nat.zero_le _, e1, by omega, hcm, by rw [Nat.mul_one]; exact e2, ?_⟩⟩, ⟨e4, e5, e6, by omega, fun k _ hk => e8 k fun h => hk (by rw [h])⟩, .inl rfl⟩
    apply List.ext_getElem?
    intro j
    rw [Nat.mul_one, hlen, List.getElem?_take]
    split
    ·rename_i hj; rw [Array.getElem?_toList]; exact e3 j hj
    ·rename_i hj; rw [List.getElem?_eq_none (by omega)]
   have some_ : ∀ j, j < cap → (w.cell? ⟨b, 0 + j, none⟩).isSome = true := by
    intro j hj
    simp only [World.cell?, hg, Nat.zero_add]
    simp [hcs, hj]
   have nofz : ∀ j, w.frozen? ⟨b, j, none⟩ = false := by
    intro j
    simp only [World.frozen?, hg]
    simp
   by_cases hin : i < cs.length
   ·have hvb : vb ≠ b := fun h => hne (by rw [h]; rfl)
    have nofv : ∀ j, w.frozen? ⟨vb, j, none⟩ = false := by
     intro j
     simp only [World.frozen?, hv]
     simp
    refine (Any2.slices_Insert_int_shift L b 0 cs.length cap i vb 0 1 c1 cs [x] w hin (by omega) hroom (by unfold maxLen at hcm; omega) hvb rfl rfl hcell (fun j hj => some_ j (by omega)) (fun j _ => nofz _) hvs h1c h1v T1 (ρ.t 3) cur1.size cur.size (by simp [World.shape?, hv]) (by simp [World.shape?, hg]) (by omega) (nofv _) (nofv _)).mono ?_
    rintro e w' ⟨rfl, rfl⟩
    refine ⟨_, rfl, ?_⟩
    obtain ⟨cu1, a1, a2, a3⟩ := setCells_at b (ρ.t 3) (cs.drop i) (0 + (i + 1)) w.drew cur hg (by simp; omega)
    obtain ⟨cu2, b1, b2, b3⟩ := setCells_at b (ρ.t 3) [x] (0 + i) _ cu1 a1 (by simp; omega)
    obtain ⟨r1, r2, r3, r4, r5⟩ := setCells_rest b (cs.drop i) (0 + (i + 1)) w.drew
    obtain ⟨s1, s2, s3, s4, s5⟩ := setCells_rest b [x] (0 + i) (w.drew.setCells b (0 + (i + 1)) (cs.drop i))
    refine fin _ cu2 b1 (by omega) (fun j hj => ?_) (s1.trans r1) (s2.trans r2) (s3.trans r3) (s4.trans r4) fun k hk => (s5 k hk).trans (r5 k hk)
    rw [b3, a3]
    simp only [List.length_cons, List.length_nil, List.length_drop, Nat.zero_add]
    rcases Nat.lt_trichotomy j i with h | h | h
    ·rw [if_neg (by omega), if_neg (by omega), hcur j (by omega), List.getElem?_append_left (by simp; omega), List.getElem?_take, if_pos h]
    ·subst h
     rw [if_pos (by omega), List.getElem?_append_right (by rw [List.length_take]; omega), List.length_take, Nat.min_eq_left (by omega)]
     simp
    ·rw [if_neg (by omega), if_pos (by omega), List.getElem?_append_right (by simp; omega), List.length_take, Nat.min_eq_left (by omega), show j - i = (j - (i + 1)) + 1 from by omega, List.getElem?_cons_succ]
   ·obtain rfl : i = cs.length := by omega
    refine (Any2.slices_Insert_int_end_room L b 0 cs.length cap vb 0 1 c1 [x] w (by omega) hroom (by unfold maxLen at hcm; omega) rfl (fun j hj => by have := some_ (cs.length + j) (by omega); rwa [← Nat.add_assoc] at this) (fun j _ => nofz _) hvs h1v).mono ?_
    rintro e w' ⟨rfl, rfl⟩
    refine ⟨_, rfl, ?_⟩
    obtain ⟨cu1, a1, a2, a3⟩ := setCells_at b (ρ.t 3) [x] (0 + cs.length) w cur hg (by simp; omega)
    obtain ⟨r1, r2, r3, r4, r5⟩ := setCells_rest b [x] (0 + cs.length) w
    refine fin _ cu1 a1 (by omega) (fun j hj => ?_) r1 r2 r3 r4 r5
    rw [a3]
    simp only [List.length_cons, List.length_nil, Nat.zero_add, List.take_length, List.drop_length]
    by_cases h : j < cs.length
    ·rw [if_neg (by omega), hcur j h, List.getElem?_append_left h]
    ·rw [if_pos (by omega), List.getElem?_append_right (by omega)]
  ·by_cases hin : i < cs.length
   ·refine (Any2.slices_Insert_int_grow L b 0 cs.length cap i vb 0 1 c1 cs [x] w hin (by omega) hnc (by omega) (by omega) rfl rfl hcell hvs h1c h1v).mono ?_
    rintro e w' ⟨rfl, rfl⟩
    refine ⟨_, rfl, ?_⟩
    have hG := hgc cap (ρ.t 3)
    generalize hcap' : grownCap w (cs.length + 1) cap (ρ.t 3) = cap' at *
    have hgm : cap' ≤ maxLen := by rw [← hcap']; exact gmax cap
    let cu0 : Array Value := (cs.take i).toArray ++ Builtin.zeroCells (Value.int .i64 0).cells (cs.length + 1 - i) ++ Builtin.zeroCells (Value.int .i64 0).cells (cap' - (cs.length + 1))
    have hs0 : cu0.size = cap' := by simp [cu0, size_zeroCells, Value.cells]; omega
    have h0 : (w.alloc (.cells cu0 (ρ.t 3))).drew.heap[w.heap.size]? = some (.cells cu0 (ρ.t 3) (0, 0)) := heap_alloc_new w _
    obtain ⟨cu1, a1, a2, a3⟩ := setCells_at w.heap.size (ρ.t 3) [x] i _ cu0 h0 (by simp; omega)
    obtain ⟨cu2, b1, b2, b3⟩ := setCells_at w.heap.size (ρ.t 3) (cs.drop i) (i + 1) (((w.alloc (.cells cu0 (ρ.t 3))).drew.setCells w.heap.size i [x]).drew) cu1 a1 (by simp; omega)
    obtain ⟨r1, r2, r3, r4, r5⟩ := setCells_rest w.heap.size [x] i (w.alloc (.cells cu0 (ρ.t 3))).drew
    obtain ⟨s1, s2, s3, s4, s5⟩ := setCells_rest w.heap.size (cs.drop i) (i + 1) (((w.alloc (.cells cu0 (ρ.t 3))).drew.setCells w.heap.size i [x]).drew)
    have hsz1 : (w.alloc (.cells cu0 (ρ.t 3))).drew.heap.size = w.heap.size + 1 := by show (w.heap.push _).size = _; simp
    refine ⟨⟨by rw [Nat.mul_one], .inr ⟨w.heap.size, cap', cu2, by rw [hlen], Nat.zero_le _, b1, by omega, hgm, by omega, ?_⟩⟩, ⟨s1.trans r1, s2.trans r2, s3.trans r3, ?_, fun k hk _ => ?_⟩, .inr fun q hq => by simp [Value.ownBlock] at hq; omega⟩
    ·apply List.ext_getElem?
     intro j
     rw [Nat.mul_one, hlen, List.getElem?_take]
     split
     ·rename_i hj
      rw [Array.getElem?_toList, b3, a3]
      simp only [List.length_cons, List.length_nil, List.length_drop]
      rcases Nat.lt_trichotomy j i with h | h | h
      ·rw [if_neg (by omega), if_neg (by omega), List.getElem?_append_left (by simp; omega)]
       simp only [cu0]
       rw [Array.append_assoc, Array.getElem?_append_left (by simp; omega)]
       simp
      ·subst h
       rw [if_neg (by omega), if_pos (by omega), List.getElem?_append_right (by rw [List.length_take]; omega), List.length_take, Nat.min_eq_left (by omega)]
       simp
      ·rw [if_pos (by omega), List.getElem?_append_right (by simp; omega), List.length_take, Nat.min_eq_left (by omega), show j - i = (j - (i + 1)) + 1 from by omega, List.getElem?_cons_succ]
     ·rename_i hj; rw [List.getElem?_eq_none (by omega)]
    ·have e1 : (((w.alloc (.cells cu0 (ρ.t 3))).drew.setCells w.heap.size i [x]).drew.setCells w.heap.size (i + 1) (cs.drop i)).heap.size = w.heap.size + 1 := (s4.trans r4).trans hsz1
     show w.heap.size ≤ (((w.alloc (.cells cu0 (ρ.t 3))).drew.setCells w.heap.size i [x]).drew.setCells w.heap.size (i + 1) (cs.drop i)).heap.size
     omega
    ·exact ((s5 k (by omega)).trans (r5 k (by omega))).trans (heap_alloc_old w _ hk)
   ·obtain rfl : i = cs.length := by omega
    refine (Any2.slices_Insert_int_end_grow L (some ⟨b, 0, none⟩) cs.length cap vb 0 1 c1 cs [x] w (by omega) hnc (by omega) (by omega) rfl rfl (by simp) (fun a ha j v hj => by cases ha; rw [Addr.add_lit]; exact hcell j v hj) hvs h1v).mono ?_
    rintro e w' ⟨rfl, rfl⟩
    refine ⟨_, rfl, ?_, alloc_grown w _ _, .inr fun q hq => by simp [Value.ownBlock] at hq; omega⟩
    rw [hlen]
    exact grown _ _ (by simp [size_zeroCells, Value.cells]; have := hgc cap (ρ.t 3); omega) (hgc _ _) (gmax cap) fun j hj => by
     rw [Array.getElem?_append_left (by simp; omega)]
     simp
theorem ints_own {U F : Nat → Prop} {β : Nat → Option Bind} {w : World} {bd : Bind} {e : TypeId} {xs : List Int} (h : ChOk U w F β bd (.row e 1 (xs.map fun n => [.v (.int .i64 n)]))) : w.ownsRow 0 e 1 bd.v (xs.map (Value.int .i64)).length (xs.map (Value.int .i64)) ∧ bd.v.ownBlock = bd.b := by
 obtain ⟨h1, h2, h3, h4⟩ := h
 simp only [List.length_map] at h2 h4 ⊢
 rcases h4 with ⟨h5, h6, h7⟩ | ⟨g, cap, cur, h5, h6, h7, h8, h9, h10, hE⟩
 ·obtain rfl : xs = [] := by simpa using h6
  rw [h7, h5]
  exact ⟨World.ownsRow_nil w 0 e 1, rfl⟩
 ·rw [h6, h5]
  refine ⟨⟨by simp, .inr ⟨g, cap, cur, rfl, Nat.zero_le _, h7, h8, h9, h10, ?_⟩⟩, rfl⟩
  apply List.ext_getElem?
  intro j
  rw [List.getElem?_take, List.getElem?_map]
  split
  ·rename_i hj
   have hj : j < xs.length := by omega
   obtain ⟨_, hC⟩ := hE.at j [.v (.int .i64 xs[j])] (by simp [hj])
   obtain ⟨u, hu, hr⟩ := hC.at 0 _ rfl
   simp only [RelP] at hr
   simp only [World.cell?, h7, Nat.zero_add, Nat.mul_one, Nat.add_zero, Option.isSome_none, Bool.false_eq_true, if_false] at hu
   rw [Array.getElem?_toList, hu, hr.1]
   simp [hj]
  ·rename_i hj
   rw [List.getElem?_eq_none (by omega)]; rfl
theorem insert_s (L : Lays2.n21 P ρ) (hent : Enters P (ρ.f 21)) (xs : List Int) (i : Nat) (hi : i ≤ xs.length) (hsm : xs.length ≤ 1000000) (x : Int) :
 Spec P (ρ.f 21) [.own 0, I .i64 i, .own 1] [.row (ρ.t 3) 1 (xs.map fun n => [.v (.int .i64 n)]), .row (ρ.t 3) 1 [[.v (.int .i64 x)]]] (.own 2) [.dead, .dead, .row (ρ.t 3) 1 ((xs.take i ++ x :: xs.drop i).map fun n => [.v (.int .i64 n)])] := by
 refine ⟨hent, by simp, fun w F β vs M hv => ?_⟩
 simp only [RelL] at hv
 obtain ⟨v0, _, rfl, hv0, u1, _, rfl, hu1, v1, _, rfl, hv1, rfl⟩ := hv
 obtain ⟨rfl, _⟩ := relC.1 hu1
 obtain ⟨b0, hb0, H0⟩ := M.ch 0 (by simp [nth])
 obtain ⟨b1, hb1, H1⟩ := M.ch 1 (by simp [nth])
 simp only [RelA] at hv0 hv1
 obtain rfl := hv0.2.2 b0 hb0
 obtain rfl := hv1.2.2 b1 hb1
 change ChOk _ w F β b0 (.row (ρ.t 3) 1 (xs.map fun n => [.v (.int .i64 n)])) at H0
 change ChOk _ w F β b1 (.row (ρ.t 3) 1 ([x].map fun n => [.v (.int .i64 n)])) at H1
 obtain ⟨own0, blk0⟩ := ints_own H0
 obtain ⟨_, _, _, H1⟩ := H1
 obtain ⟨bs0, _⟩ := H0
 rcases H1 with ⟨_, h, _⟩ | ⟨g1, cap1, cur1, h5, h6, h7, h8, h9, h10, hE⟩
 ·simp at h
 obtain ⟨_, hC⟩ := hE.at 0 [.v (.int .i64 x)] rfl
 obtain ⟨u, hu, hr⟩ := hC.at 0 _ rfl
 simp only [RelP] at hr
 have hx : cur1[0]? = some (.int .i64 x) := by
  rw [hr.1] at hu
  simpa [World.cell?, h7] using hu
 have hne : b0.v.ownBlock ≠ some g1 := fun h => absurd (M.dis 0 1 b0 b1 g1 hb0 hb1 (.inl (by rw [← blk0]; exact h)) (.inl h5)) (by decide)
 have hC := insert_calls L w b0.v _ own0 (by simp [Value.oneCell']) i (by simpa using hi) (by simpa using hsm) g1 cap1 cur1 _ h7 _ hx rfl hne
 rw [h6]
 refine hC.mono ?_
 rintro en w' ⟨v', rfl, hown', hgr, hob⟩
 have hval : (xs.map (Value.int .i64)).take i ++ Value.int .i64 x :: (xs.map (Value.int .i64)).drop i = (xs.take i ++ x :: xs.drop i).map (Value.int .i64) := by simp
 rw [hval] at hown'
 generalize hzs : xs.take i ++ x :: xs.drop i = zs at *
 simp only [List.length_map] at hown'
 let bd' : Bind := ⟨v', v'.ownBlock, zs.length, 1, []⟩
 have hvlt : ∀ q, v'.ownBlock = some q → q < w'.heap.size ∧ (w.heap.size ≤ q ∨ b0.b = some q) := by
  intro q hq
  refine ⟨(hown'.lt q hq).2, ?_⟩
  rcases hob with h | h
  ·exact .inr (by rw [← blk0, ← h]; exact hq)
  ·exact .inl (h q hq)
 have oth : ∀ j, ¬ (j = 2 ∨ j = 0 ∨ j = 1) → ¬ 2 = j ∧ ¬ 0 = j ∧ ¬ 1 = j := fun j h => ⟨fun e => h (.inl e.symm), fun e => h (.inr (.inl e.symm)), fun e => h (.inr (.inr e.symm))⟩
 have hb2 : ∀ bd, β 2 ≠ some bd := fun bd hb => absurd (M.used 2 bd hb) (by simp)
 obtain ⟨S1, S2⟩ := M.step (w' := w') (h' := nth [.dead, .dead, .row (ρ.t 3) 1 (zs.map fun n => [.v (.int .i64 n)])]) (β' := updB (updB (updB β 1 none) 0 none) 2 (some bd')) (F' := F) (U' := (· < 3)) (fun j => j = 2 ∨ j = 0 ∨ j = 1)
  (fun j hj => by obtain ⟨h1, h2, h3⟩ := oth j hj; simp only [updB, if_neg h1, if_neg h2, if_neg h3])
  (fun j hj => by
   match j, hj with
   | 0, hj => exact (hj (.inr (.inl rfl))).elim
   | 1, hj => exact (hj (.inr (.inr rfl))).elim
   | 2, hj => exact (hj (.inl rfl)).elim
   | j + 3, _ => simp [nth])
  hgr.os hgr.tape hgr.output hgr.size
  (fun q hq hn => hgr.block q hq fun he => hn 0 b0 (.inr (.inl rfl)) hb0 (.inl (by rw [← blk0]; exact he.symm)))
  (fun j hj => by simp at hj; omega) (fun b hb => hb) (fun b hb => ⟨Nat.lt_of_lt_of_le (M.fin b hb) hgr.size, .inl hb⟩)
  (fun j bd hj hu hb => by
   rcases hj with rfl | rfl | rfl
   ·simp at hu
   ·simp [updB] at hb
   ·simp [updB] at hb)
  (fun j bd hj hb => by
   rcases hj with rfl | rfl | rfl
   ·simp only [updB, if_true, Option.some.injEq] at hb
    subst hb
    refine ⟨by omega, fun q hq => ?_⟩
    obtain ⟨h1, h2⟩ := hvlt q (Bind.has_nil hq)
    refine ⟨h1, ?_, ?_⟩
    ·rcases h2 with h2 | h2
     ·intro hf; have := M.fin q hf; omega
     ·exact (M.off 0 b0 q hb0 (.inl h2)).1
    ·rcases h2 with h2 | h2
     ·exact .inl h2
     ·exact .inr ⟨0, b0, .inr (.inl rfl), hb0, .inl h2⟩
   ·simp [updB] at hb
   ·simp [updB] at hb)
  (fun j j' bj bj' q hj hj' hbj hbj' _ _ => by
   have only : ∀ j bj, (j = 2 ∨ j = 0 ∨ j = 1) → updB (updB (updB β 1 none) 0 none) 2 (some bd') j = some bj → j = 2 := by
    intro j bj hj hb
    rcases hj with rfl | rfl | rfl
    ·rfl
    ·simp [updB] at hb
    ·simp [updB] at hb
   rw [only j bj hj hbj, only j' bj' hj' hbj'])
  (fun E j hj hdd => by
   rcases hj with rfl | rfl | rfl
   ·refine ⟨bd', by simp [updB], ?_⟩
    change ChOk _ w' F _ bd' (.row (ρ.t 3) 1 (zs.map fun n => [.v (.int .i64 n)]))
    refine ⟨⟨rfl, rfl⟩, by simp [bd'], by simp, ?_⟩
    rcases hown'.2 with ⟨hv0, hn0⟩ | ⟨g, cap, cur, hv0, _, hg, hnc, hcm, hcs, htake⟩
    ·refine .inl ⟨by simp [bd', hv0, Value.ownBlock], ?_, hv0⟩
     rw [List.eq_nil_of_length_eq_zero hn0]; rfl
    ·refine .inr ⟨g, cap, cur, by simp [bd', hv0, Value.ownBlock], by simpa [bd'] using hv0, hg, by simpa using hnc, hcm, hcs, RelE.of fun q cs hq => ?_⟩
     rw [List.getElem?_map] at hq
     cases hz : zs[q]? with
     | none => rw [hz] at hq; simp at hq
     | some z =>
      rw [hz] at hq
      have hq' : [PV.v (.int .i64 z)] = cs := by simpa using hq
      subst hq'
      refine ⟨rfl, ?_⟩
      simp only [RelC, and_true, Nat.mul_one, Nat.zero_add, RelP]
      refine ⟨_, ?_, rfl, rfl⟩
      have hlt : q < zs.length := (List.getElem?_eq_some_iff.1 hz).1
      have e1 : (cur.toList.take (zs.length * 1))[q]? = some (.int .i64 z) := by
       rw [htake, List.getElem?_map, hz]; rfl
      rw [List.getElem?_take, if_pos (by omega)] at e1
      unfold World.cell?
      simp only [hg]
      simpa using e1
   ·exact (hdd (by simp [nth])).elim
   ·exact (hdd (by simp [nth])).elim)
 refine ⟨v', F, _, rfl, S1, ?_, fun _ h => h, fun _ h => .inl h, fun j bd hj hb => ?_⟩
 ·simp only [RelA]
  refine ⟨by simp, ?_, fun bd hb => ?_⟩
  ·rcases hown'.2 with ⟨hv0, _⟩ | ⟨g, cap, cur, hv0, _⟩ <;> rw [hv0] <;> rfl
  ·simp only [updB, if_true, Option.some.injEq] at hb
   subst hb; rfl
 ·have hj' : j = 0 ∨ j = 1 := by simp at hj; omega
  rcases hj' with rfl | rfl <;> simp [updB] at hb
end
end Go.Proofs.Ytddbnknkjaffbaa
namespace Go.Proofs.Ytddbnknkjaffbaa
set_option linter.all false
open Go.RowKit
theorem wkc {x y : AV} (h : Wk x y := by first | exact Wk.refl _ | exact Wk.nil _ | (refine Wk.tup ?_; repeat' (first | exact trivial | exact Wk.refl _ | exact Wk.nil _ | refine ⟨?_, ?_⟩ | (refine Wk.agg ?_)))) : Wk x y := h
theorem obA {a b : Prop} (h : b) (ha : a := by first | omega | decide | (simp; done) | (simp; omega) | (intro hh; refine ⟨hh, ?_⟩; omega) | (simp [mhas, mfind]; done) | (simp +contextual; done) | fail) : a ∧ b := ⟨ha, h⟩
theorem tdv {a b : Int} (h : 0 ≤ a) : a.tdiv b = a / b := Int.tdiv_eq_ediv_of_nonneg h
theorem tmd {a b : Int} (h : 0 ≤ a) : a.tmod b = a % b := Int.tmod_eq_emod_of_nonneg h
theorem xa {p : Prop} [Decidable p] : (decide p = true) = p := decide_eq_true_eq
theorem xb {p : Prop} [Decidable p] : decide p = false ↔ ¬ p := decide_eq_false_iff_not
theorem xc {b : Bool} : ((!b) = true) ↔ b = false := by cases b <;> simp
theorem xd {b : Bool} : ((!b) = false) ↔ b = true := by cases b <;> simp
theorem xe {a b : Bool} : (a || b) = true ↔ a = true ∨ b = true := by cases a <;> simp
theorem xf {a b : Bool} : (a && b) = true ↔ a = true ∧ b = true := by cases a <;> simp
theorem xg {a b : Bool} : (a || b) = false ↔ a = false ∧ b = false := by cases a <;> simp
theorem xh {a b : Bool} : (a && b) = false ↔ a = false ∨ b = false := by cases a <;> simp
theorem xi {a b : Int} : ¬ a < b ↔ b ≤ a := Int.not_lt
theorem xj {a b : Int} : ¬ a ≤ b ↔ b < a := Int.not_le
theorem xk {p q : Prop} : ¬ (p ∧ q) ↔ (p → ¬ q) := not_and
theorem xl {p q : Prop} : ¬ (p ∨ q) ↔ ¬ p ∧ ¬ q := not_or
attribute [push_cast] drE clearAV copyAV partOf invA awp awpL opW opWF opX opG ex4 ex3 fz fzL inZ fzH deadsOf rowsA rowsL fzEff mapAV kty keyA intsA ex2 ex1 loadAV cellsAt valOf addO fieldAddrAV partAV fieldAV indexAddrAV indexAV bound sliceAV convAV lenAV minInts maxInts isPtr pickAV bsel_false bsel_true binAV intBin strBin eqAV eqCells eqVal nilP unAV slOf cellsOf toPV toPVs splice fillA plFs buildAV chunks sameO makeAV sliceLitAV storeAV rowOf appAV dstOk dstV gcond strip stripsT St.app putO look_n look_c lookC_n lookC_c getO ofV seqK blkK scoK nilCmp xorB opK drK lpK_n lpK_e lpK_r joinK_n joinK_e joinK_r argsT hsT RetQ I B S Op.operands Call.operands cv cvL ix ix.go cellP cvC up upL upC upsL upI drawL touch touch2 cellIds idsA idsL memN onlyC wk_self bool_imp cvT cvH hsW resAV oneV WkL WkC List.map_cons List.map_nil Option.toArray List.getElem?_cons_zero List.getElem?_cons_succ List.getElem?_nil List.drop_succ_cons List.drop_zero List.drop_nil List.take_succ_cons List.take_zero List.take_nil List.append_nil List.nil_append List.cons_append List.getElem?_toArray List.length_cons List.length_nil List.all_cons List.all_nil Bool.and_true Bool.true_and Bool.and_self Bool.and_false Bool.false_and Bool.or_false Bool.or_true Bool.true_or Bool.false_or Option.map_some Option.map_none Option.bind_some Option.bind_none if_true if_false true_and and_true List.getD_cons_zero List.getD_cons_succ Bool.not_true Bool.not_false Bool.false_eq_true not_false_eq_true not_true_eq_false Option.isSome_some List.isEmpty_cons Nat.add_zero Nat.zero_add List.length_map List.replicate_succ List.replicate_zero Nat.sub_zero and_self implies_true forall_const Value.oneCell' imp_self Int.toNat_zero Int.toNat_one Int.toNat_natCast true_or or_true or_false false_or Array.toList_append List.size_toArray decide_true decide_false Nat.ble_eq Nat.beq_eq Bool.and_eq_true Int.natCast_add Int.cast_ofNat_Int Int.natCast_zero Int.natCast_one decide_eq_true_eq decide_eq_false_iff_not Bool.not_eq_true' Bool.not_eq_false' Bool.or_eq_true Bool.or_eq_false_iff Bool.and_eq_false_iff beq_self_eq_true
theorem xtI : True := True.intro
structure XHid (p : Prop) : Prop where
 x : p
theorem xst {G G' : Prop} (k : G') (h : XHid G' → G := by intro h0; first | ((try simp (etaStruct := .none) only [push_cast, DrawG, seval]); (try simp (disch := omega) only [wrap_in, wk_self, tdv, tmd]); (repeat with_reducible refine obA ?_); exact h0.x) | (have _h : XHid True := h0; (try simp (etaStruct := .none) only [push_cast, DrawG, seval]); (try simp (disch := omega) only [wrap_in, wk_self, tdv, tmd]); (repeat with_reducible refine obA ?_))) : G := h ⟨k⟩
theorem xsu {G G' : Prop} (k : G') (h : XHid G' → G := by intro h0; first | ((try simp (disch := omega) only [wrap_in, wk_self, tdv, tmd]); (repeat with_reducible refine obA ?_); exact h0.x) | (have _h : XHid True := h0; (try simp (disch := omega) only [wrap_in, wk_self, tdv, tmd]); (repeat with_reducible refine obA ?_))) : G := h ⟨k⟩
theorem xhh {p q : Prop} (x : p) (h : p → q := by intro h0; (simp only [xa, xb, xc, xd, xe, xf, xg, xh, xi, xj, Bool.not_true, Bool.not_false, xk, xl] at h0); exact h0) : q := h x
theorem xrz {P : Program} {rs : List ResultVar} {r : AV} {s : St} {φ : Prop} {xs : List AV} (h : resAV P (look s.t) (lookC s.h) rs = some (φ, xs)) (hw : Wk (cv [] (lookC s.h) (oneV xs)) r := by first | (refine Wk.of ?_; (try simp (etaStruct := .none) only [push_cast, DrawG, seval]); first | done | (simp [*]; done) | (simp_all; done) | fail) | ((try simp (etaStruct := .none) only [push_cast, DrawG, seval]); (try simp [*]); (try exact wkc))) (hφ : φ := by repeat' (first | exact trivial | exact rfl | refine ⟨?_, ?_⟩)) : RetG P 0 rs r [] s := ret0 h hφ hw
section
variable {P : Program} {f : FuncId} {args args' : List AV} {h : Nat → Chunk} {m : Nat} {K : Eff → Prop} {r : AV} {c : Bool} {φ : Prop}
theorem caP (S : Spec P f args' [] r []) (k : K ⟨up [] m r, [], 0⟩) (hw : WkL (cvL [] noC args) args' := by exact WkL.refl _) : CallG P f args h m K := callP S hw k
theorem gcP (S : c = true → Spec P f args' [] r []) (k : K ⟨.opt c (up [] m r), [], 0⟩) (hw : WkL (cvL [] noC args) args' := by exact WkL.refl _) (hφ : c = true → φ := by intro hc; (try simp (etaStruct := .none) only [push_cast, DrawG, seval]); (try simp_all)) : GCall P c f args φ h m K := gcallP S hw hφ k
theorem caM {hs hs' : List Chunk} (ids : List Nat) (S : Spec P f args' hs r hs') (k : K ⟨up ids m r, upsL ids m 0 hs', hs'.length - ids.length⟩) (hw : WkL (cvL ids noC args) args' := by exact WkL.refl _) (hh : hs = ids.map (fun id => cvC ids noC (h id)) := by rfl) (hnd : ids.Nodup := by decide) (hal : ∀ id ∈ ids, h id ≠ .dead := by simp [lookC_c]) : CallG P f args h m K := callM ids S hw hh hnd hal k
end
end Go.Proofs.Ytddbnknkjaffbaa
namespace Go.Proofs.Ytddbnknkjaffbaa
set_option linter.all false
theorem mix : Try.prog.follows .mixedOrders = true := by kernel_rfl
theorem it3 : intTy Try.prog 3 = true := by kernel_rfl
theorem ty3 : ty Try.prog 3 = some ⟨.int .i64, false, 1, 8, [.int .i64 0]⟩ := by kernel_rfl
theorem ty5 : ty Try.prog 5 = some ⟨.int .u8, false, 1, 1, [.int .u8 0]⟩ := by kernel_rfl
theorem ty9 : ty Try.prog 9 = some ⟨.str, false, 1, 16, [.string ByteArray.empty]⟩ := by kernel_rfl
theorem ty22 : ty Try.prog 22 = some ⟨.sl 44, false, 1, 24, [.slice none 0 0]⟩ := by kernel_rfl
theorem ty23 : ty Try.prog 23 = some ⟨.sl 3, false, 1, 24, [.slice none 0 0]⟩ := by kernel_rfl
theorem it24 : intTy Try.prog 24 = true := by kernel_rfl
theorem ty24 : ty Try.prog 24 = some ⟨.int .i64, false, 1, 8, [.int .i64 0]⟩ := by kernel_rfl
theorem ty33 : ty Try.prog 33 = some ⟨.sl 37, false, 1, 24, [.slice none 0 0]⟩ := by kernel_rfl
theorem ty37 : ty Try.prog 37 = some ⟨.st [some (0, 1, false), some (1, 1, false), some (2, 1, false)], true, 3, 24, [.int .i64 0, .int .i64 0, .int .i64 0]⟩ := by kernel_rfl
theorem ty41 : ty Try.prog 41 = some ⟨.other, false, 1, 8, [.nilFunc]⟩ := by kernel_rfl
theorem ty44 : ty Try.prog 44 = some ⟨.st [some (0, 1, false), some (1, 1, false), some (2, 1, false)], true, 3, 24, [.int .i64 0, .int .i64 0, .int .i64 0]⟩ := by kernel_rfl
theorem ty46 : ty Try.prog 46 = some ⟨.other, false, 1, 8, [.nilFunc]⟩ := by kernel_rfl
theorem ty50 : ty Try.prog 50 = some ⟨.int .u64, false, 1, 8, [.int .u64 0]⟩ := by kernel_rfl
theorem it53 : intTy Try.prog 53 = true := by kernel_rfl
theorem ty53 : ty Try.prog 53 = some ⟨.int .i64, false, 1, 8, [.int .i64 0]⟩ := by kernel_rfl
theorem ty61 : ty Try.prog 61 = some ⟨.int .u32, false, 1, 4, [.int .u32 0]⟩ := by kernel_rfl
theorem ty63 : ty Try.prog 63 = some ⟨.int .u64, false, 1, 8, [.int .u64 0]⟩ := by kernel_rfl
theorem ty64 : ty Try.prog 64 = some ⟨.int .u64, false, 1, 8, [.int .u64 0]⟩ := by kernel_rfl
theorem ty68 : ty Try.prog 68 = some ⟨.ptr 3, false, 1, 8, [.pointer none]⟩ := by kernel_rfl
attribute [push_cast] it3 ty3 ty5 ty9 ty22 ty23 it24 ty24 ty33 ty37 ty41 ty44 ty46 ty50 it53 ty53 ty61 ty63 ty64 ty68
end Go.Proofs.Ytddbnknkjaffbaa
namespace Go.Proofs.Ytddbnknkjaffbaa
set_option linter.all false
open Go.RowKit
abbrev In64 (n : Int) : Prop := -9223372036854775808 ≤ n ∧ n ≤ 9223372036854775807
abbrev pI (n : Int) : PV := .v (.int .i64 n)
abbrev pB (b : Bool) : PV := .v (.bool b)
def i64P (n : Int) : List PV := [pI n]
def u64P (n : Nat) : List PV := [.v (.int .u64 n)]
def boolP (b : Bool) : List PV := [pB b]
def strP (s : ByteArray) : List PV := [.v (.string s)]
structure Cel where
 x : Int
 y : Int
 deriving DecidableEq, Inhabited
structure Fld where
 w : Int
 h : Int
 p : List Int
 deriving DecidableEq, Inhabited
structure Trp where
 id : Int
 owner : Int
 kind : Int
 c : Cel
 life : Int
 load : Int
 deriving DecidableEq, Inhabited
structure Wld where
 f : Fld
 bases : List Cel
 stocks : List Int
 mines : List Int
 troops : List Trp
 next : Int
 now : Int
 deriving DecidableEq, Inhabited
structure Ord where
 by_ : Int
 kind : Int
 who : Int
 c : Cel
 what : Int
 deriving DecidableEq, Inhabited
theorem getD_in {α : Type} [Inhabited α] (f : α → List PV) (l : List α) (i : Nat) (h : i < l.length) : (l.map f).getD i [] = f (l.getD i default) := by
 simp [h]
theorem getD_at {α : Type} [Inhabited α] (l : List α) (i : Nat) (h : i < l.length) : l.getD i default = l[i] := by simp [h]
theorem take_snoc {α : Type} [Inhabited α] (l : List α) (k : Nat) (h : k < l.length) : l.take (k + 1) = l.take k ++ [l.getD k default] := by rw [List.take_succ_eq_append_getElem h, getD_at _ _ h]
end Go.Proofs.Ytddbnknkjaffbaa
namespace Go.Proofs.Ytddbnknkjaffbaa
set_option linter.all false
open Go.RowKit
set_option maxRecDepth 100000
def within (n a b : Int) : Bool := decide (a ≤ n) && decide (n ≤ b)
theorem within_iff {n a b : Int} : within n a b = true ↔ a ≤ n ∧ n ≤ b := by unfold within; simp
theorem within_f {n a b : Int} : within n a b = false ↔ ¬ (a ≤ n ∧ n ≤ b) := by unfold within; simp
theorem between_s (n a b : Int) : Spec Try.prog 15 [I .i64 n, I .i64 a, I .i64 b] [] (B (within n a b)) [] := by
 refine spec_am Try.func15 rfl rfl mix 15 rfl [.tmp 6] Try.results15 (Nat.le_of_ble_eq_true rfl) ?_
 (try (refine xst ?_; try exact xtI))
 exact ret0 rfl trivial (Wk.of (congrArg B (by unfold within; first | rfl | simp)))
end Go.Proofs.Ytddbnknkjaffbaa
namespace Go.Proofs.Ytddbnknkjaffbaa
set_option linter.all false
open Go.RowKit
set_option maxRecDepth 100000
set_option maxHeartbeats 1000000
def gamP (g : Gam) : List PV := [pI g.a, pI g.b, pI g.won]
def scoP (x : Sco) : List PV := [pI x.player, pI x.points, pI x.won]
theorem ptsV_0 (p : Int) : ptsV [] p = (0, 0) := rfl
theorem pointsOf_s (l : List Gam) (p : Int) (hl : l.length ≤ 3000) : Spec Try.prog 7 [.c (.sl 3 (l.map gamP)), I .i64 p] [] (.tup [I .i64 (ptsV l p).1, I .i64 (ptsV l p).2]) [] := by
 refine spec_am Try.func7 rfl rfl mix 60 rfl [.tmp 4, .tmp 5] Try.results7 (Nat.le_of_ble_eq_true rfl) ?_
 (try (refine xst ?_; try exact xtI))
 refine loopI (fun k : Nat => ⟨[(12, I .i64 k), (11, I .i64 l.length), (10, .c (.sl 3 (l.map gamP))), (7, I .i64 (ptsV (l.take k) p).2), (6, I .i64 (ptsV (l.take k) p).1), (1, I .i64 p)], [], 0⟩) (fun k : Nat => k ≤ l.length) (fun k : Nat => l.length - k) (0) (Nat.zero_le _) (To.mk [] rfl rfl List.nodup_nil trivial ?_) ?_
 ·simp (etaStruct := .none) only [push_cast, DrawG, seval, ptsV_0]
 rintro k hk
 (try (refine xst ?_; try exact xtI))
 refine cond_i (fun h1 => ?_) (fun h1 => ?_)
 ·(try replace h1 := xhh h1)
  have hlt : k < l.length := by omega
  have ts := take_snoc l k hlt
  have hb := ptsV_b (l.take k) p
  have hk3 : (l.take k).length = k := by rw [List.length_take]; omega
  have hs := ptsV_snoc (l.take k) (l.getD k default) p
  rw [← ts] at hs
  (iterate 2 ((try simp (etaStruct := .none) only [push_cast, DrawG, seval, getD_in _ _ _ hlt, gamP]); (try (refine xsu ?_; try exact xtI))))
  refine cond_i (fun h2 => ?_) (fun h2 => ?_)
  ·(try replace h2 := xhh h2)
   have e : gamV (l.getD k default) p = (1, 0) := by unfold gamV; rw [if_pos ⟨by omega, by omega⟩]
   rw [e] at hs
   (iterate 2 ((try simp (etaStruct := .none) only [push_cast, DrawG, seval, getD_in _ _ _ hlt, gamP]); (try (refine xsu ?_; try exact xtI))))
   refine ⟨k + 1, by omega, by omega, To.mk [] rfl rfl List.nodup_nil trivial ?_⟩
   ·simp (etaStruct := .none) only [push_cast, DrawG, seval, hs, Int.add_zero]
  ·(try replace h2 := xhh h2)
   (iterate 2 ((try simp (etaStruct := .none) only [push_cast, DrawG, seval, getD_in _ _ _ hlt, gamP]); (try (refine xsu ?_; try exact xtI))))
   refine cond_i (fun h3 => ?_) (fun h3 => ?_)
   ·(try replace h3 := xhh h3)
    have e : gamV (l.getD k default) p = (3, 1) := by unfold gamV; rw [if_neg (by omega), if_pos (by omega)]
    rw [e] at hs
    (iterate 2 ((try simp (etaStruct := .none) only [push_cast, DrawG, seval, getD_in _ _ _ hlt, gamP]); (try (refine xsu ?_; try exact xtI))))
    refine cond_i (fun h4 => ?_) (fun h4 => ?_)
    ·(try replace h4 := xhh h4)
     (iterate 2 ((try simp (etaStruct := .none) only [push_cast, DrawG, seval, getD_in _ _ _ hlt, gamP]); (try (refine xsu ?_; try exact xtI))))
     refine ⟨k + 1, by omega, by omega, To.mk [] rfl rfl List.nodup_nil trivial ?_⟩
     ·simp (etaStruct := .none) only [push_cast, DrawG, seval, hs, Int.add_zero]
    ·(try replace h4 := xhh h4)
     omega
   ·(try replace h3 := xhh h3)
    (iterate 2 ((try simp (etaStruct := .none) only [push_cast, DrawG, seval, getD_in _ _ _ hlt, gamP]); (try (refine xsu ?_; try exact xtI))))
    refine cond_i (fun h5 => ?_) (fun h5 => ?_)
    ·(try replace h5 := xhh h5)
     have e : gamV (l.getD k default) p = (3, 1) := by unfold gamV; rw [if_neg (by omega), if_pos (by omega)]
     rw [e] at hs
     (iterate 2 ((try simp (etaStruct := .none) only [push_cast, DrawG, seval, getD_in _ _ _ hlt, gamP]); (try (refine xsu ?_; try exact xtI))))
     refine ⟨k + 1, by omega, by omega, To.mk [] rfl rfl List.nodup_nil trivial ?_⟩
     ·simp (etaStruct := .none) only [push_cast, DrawG, seval, hs, Int.add_zero]
    ·(try replace h5 := xhh h5)
     have e : gamV (l.getD k default) p = (0, 0) := by unfold gamV; rw [if_neg (by omega), if_neg (by omega)]
     rw [e] at hs
     (iterate 2 ((try simp (etaStruct := .none) only [push_cast, DrawG, seval, getD_in _ _ _ hlt, gamP]); (try (refine xsu ?_; try exact xtI))))
     refine ⟨k + 1, by omega, by omega, To.mk [] rfl rfl List.nodup_nil trivial ?_⟩
     ·simp (etaStruct := .none) only [push_cast, DrawG, seval, hs, Int.add_zero]
 ·(try replace h1 := xhh h1)
  obtain rfl : k = l.length := by omega
  (iterate 2 ((try simp (etaStruct := .none) only [push_cast, DrawG, seval, List.take_length]); (try (refine xsu ?_; try exact xtI))))
  exact xrz rfl
theorem gamR_iff {n : Int} {g : Gam} : gamR n g = true ↔ 0 ≤ g.a ∧ g.a < n ∧ 0 ≤ g.b ∧ g.b < n ∧ g.a ≠ g.b ∧ 0 ≤ g.won ∧ g.won ≤ 2 := by unfold gamR; rw [decide_eq_true_iff]
theorem gamsE_4 {n : Int} {l : List Gam} (h1 : 1 ≤ n ∧ n ≤ 64) (h2 : l.length ≤ 3000) (k : Nat) (hk : k < l.length) (h : ¬ gamR n (l.getD k default) = true) : gamsE n l = 4 := by
 unfold gamsE
 rw [if_neg (by omega), if_neg (by omega), if_neg]
 intro ha
 rw [List.all_eq_true] at ha
 exact h (by rw [getD_at _ _ hk]; exact ha _ (List.getElem_mem hk))
theorem gamsE_0 {n : Int} {l : List Gam} (h1 : 1 ≤ n ∧ n ≤ 64) (h2 : l.length ≤ 3000) (h : ∀ j, j < l.length → gamR n (l.getD j default) = true) : gamsE n l = 0 := by
 unfold gamsE
 rw [if_neg (by omega), if_neg (by omega), if_pos]
 rw [List.all_eq_true]
 intro g hg
 obtain ⟨i, hi, rfl⟩ := List.getElem_of_mem hg
 have := h i hi
 rwa [getD_at _ _ hi] at this
theorem gamesRight_s (n : Int) (l : List Gam) (hl : l.length ≤ 9223372036854775807) : Spec Try.prog 6 [I .i64 n, .c (.sl 3 (l.map gamP))] [] (I .i64 (gamsE n l)) [] := by
 refine spec_am Try.func6 rfl rfl mix 47 rfl [.tmp 4] Try.results6 (Nat.le_of_ble_eq_true rfl) ?_
 (try (refine xst ?_; try exact xtI))
 refine caP (between_s n 1 64) ?_
 (try (refine xst ?_; try exact xtI))
 refine cond_i (fun h1 => ?_) (fun h1 => ?_)
 ·(try replace h1 := xhh h1)
  have e : gamsE n l = 1 := by unfold gamsE; rw [if_pos]; rw [within_f] at h1; omega
  (try (refine xst ?_; try exact xtI))
  exact ret0 rfl trivial (Wk.of (by rw [e]; rfl))
 ·(try replace h1 := xhh h1)
  have hn := within_iff.1 h1
  (try (refine xst ?_; try exact xtI))
  refine cond_i (fun h2 => ?_) (fun h2 => ?_)
  ·(try replace h2 := xhh h2)
   have e : gamsE n l = 2 := by unfold gamsE; rw [if_neg (by omega), if_pos (by omega)]
   (try (refine xst ?_; try exact xtI))
   exact ret0 rfl trivial (Wk.of (by rw [e]; rfl))
  ·(try replace h2 := xhh h2)
   (try (refine xst ?_; try exact xtI))
   refine loopI (fun k : Nat => ⟨[(15, I .i64 k), (14, I .i64 l.length), (13, .c (.sl 3 (l.map gamP))), (0, I .i64 n)], [], 0⟩) (fun k : Nat => k ≤ l.length ∧ ∀ j, j < k → gamR n (l.getD j default) = true) (fun k : Nat => l.length - k) (0) (⟨Nat.zero_le _, fun j h => by omega⟩) (To.mk [] rfl rfl List.nodup_nil trivial ?_) ?_
   ·simp (etaStruct := .none) only [push_cast, DrawG, seval]
   rintro k hk
   (try (refine xst ?_; try exact xtI))
   refine cond_i (fun h3 => ?_) (fun h3 => ?_)
   ·(try replace h3 := xhh h3)
    have hlt : k < l.length := by omega
    (iterate 2 ((try simp (etaStruct := .none) only [push_cast, DrawG, seval, getD_in _ _ _ hlt, gamP]); (try (refine xsu ?_; try exact xtI))))
    refine caP (between_s (l.getD k default).a 0 (n - 1)) ?_
    (iterate 2 ((try simp (etaStruct := .none) only [push_cast, DrawG, seval, getD_in _ _ _ hlt, gamP]); (try (refine xsu ?_; try exact xtI))))
    refine gcP (fun hcc => between_s (l.getD k default).b 0 (n - 1)) ?_
    (iterate 2 ((try simp (etaStruct := .none) only [push_cast, DrawG, seval, getD_in _ _ _ hlt, gamP]); (try (refine xsu ?_; try exact xtI))))
    refine gcP (fun hcc => between_s (l.getD k default).won 0 2) ?_
    (iterate 2 ((try simp (etaStruct := .none) only [push_cast, DrawG, seval, getD_in _ _ _ hlt, gamP]); (try (refine xsu ?_; try exact xtI))))
    refine cond_i (fun h4 => ?_) (fun h4 => ?_)
    ·(try replace h4 := xhh h4)
     have e : gamsE n l = 4 := gamsE_4 hn (by omega) k hlt (fun hg => by
      have hg := gamR_iff.1 hg
      have w1 := within_iff.2 (show 0 ≤ (l.getD k default).a ∧ (l.getD k default).a ≤ n - 1 by omega)
      have w2 := within_iff.2 (show 0 ≤ (l.getD k default).b ∧ (l.getD k default).b ≤ n - 1 by omega)
      have w3 := within_iff.2 (show 0 ≤ (l.getD k default).won ∧ (l.getD k default).won ≤ 2 by omega)
      simp only [w1, w2, w3, Bool.true_eq_false, or_false, false_or] at h4
      omega)
     (iterate 2 ((try simp (etaStruct := .none) only [push_cast, DrawG, seval, getD_in _ _ _ hlt, gamP]); (try (refine xsu ?_; try exact xtI))))
     exact ret0 rfl trivial (Wk.of (by rw [e]; rfl))
    ·(try replace h4 := xhh h4)
     have hg : gamR n (l.getD k default) = true := by
      obtain ⟨⟨⟨a1, a2⟩, a3⟩, a4⟩ := h4
      have b1 := within_iff.1 a1
      have b2 := within_iff.1 a2
      have b3 := within_iff.1 a4
      exact gamR_iff.2 (by omega)
     (iterate 2 ((try simp (etaStruct := .none) only [push_cast, DrawG, seval, getD_in _ _ _ hlt, gamP]); (try (refine xsu ?_; try exact xtI))))
     refine ⟨k + 1, ⟨by omega, fun j hj => by
 rcases Nat.lt_or_ge j k with h | h
 ·exact hk.2 j h
 ·rw [show j = k by omega]; exact hg⟩, by omega, To.mk [] rfl rfl List.nodup_nil trivial ?_⟩
     ·(iterate 2 ((try simp (etaStruct := .none) only [push_cast, DrawG, seval, getD_in _ _ _ hlt, gamP]); (try (refine xsu ?_; try exact xtI))))
   ·(try replace h3 := xhh h3)
    have e : gamsE n l = 0 := gamsE_0 hn (by omega) (fun j hj => hk.2 j (by omega))
    (try (refine xst ?_; try exact xtI))
    exact ret0 rfl trivial (Wk.of (by rw [e]; rfl))
def iniL (n k : Nat) : List Sco := (List.range n).map fun (i : Nat) => if i < k then (⟨i, 0, 0⟩ : Sco) else ⟨0, 0, 0⟩
theorem iniL_len (n k : Nat) : (iniL n k).length = n := by simp [iniL]
theorem iniL_0 (n : Nat) : (iniL n 0).map scoP = List.replicate n [.v (.int .i64 0), .v (.int .i64 0), .v (.int .i64 0)] := by
 unfold iniL
 rw [List.map_map]
 apply List.ext_getElem?
 intro j
 rw [List.getElem?_map, List.getElem?_replicate]
 by_cases hj : j < n
 ·rw [List.getElem?_range hj, if_pos hj]; simp [scoP]
 ·rw [List.getElem?_eq_none (by simp; omega), if_neg hj]; rfl
theorem iniL_at (n k : Nat) (hk : k < n) : (iniL n k).getD k default = ⟨0, 0, 0⟩ := by
 unfold iniL; rw [List.getD_eq_getElem?_getD, List.getElem?_map, List.getElem?_range hk]; simp
theorem iniL_s (n k : Nat) (hk : k < n) : (iniL n (k + 1)).map scoP = ((iniL n k).map scoP).set k (scoP ⟨k, 0, 0⟩) := by
 rw [← List.map_set]
 congr 1
 unfold iniL
 apply List.ext_getElem?
 intro j
 rw [List.getElem?_set, List.getElem?_map, List.getElem?_map, List.length_map, List.length_range]
 by_cases hj : j < n
 ·rw [List.getElem?_range hj]
  by_cases hkj : k = j
  ·subst hkj
   rw [if_pos rfl, if_pos hk]; simp
  ·rw [if_neg hkj]
   simp only [Option.map_some]
   by_cases h : j < k
   ·rw [if_pos (by omega), if_pos h]
   ·rw [if_neg (by omega), if_neg h]
 ·rw [List.getElem?_eq_none (by simp; omega)]
  by_cases hkj : k = j
  ·omega
  ·rw [if_neg hkj]; rfl
theorem iniL_n (n : Nat) : iniL n n = scoN n [] := by
 unfold iniL scoN scoF
 apply List.map_congr_left
 intro i hi
 rw [if_pos (List.mem_range.1 hi)]; rfl
theorem scores_ok (n : Nat) (l : List Gam) (hl : l.length ≤ 9223372036854775807) (hE : gamsE n l = 0) (hn : 1 ≤ n ∧ n ≤ 64) (h3 : l.length ≤ 3000) (hg : ∀ j, j < l.length → gamR n (l.getD j default) = true) : Spec Try.prog 10 [I .i64 n, .c (.sl 3 (l.map gamP))] [] (.tup [.own 0, I .i64 0]) [.row 37 3 ((scoN n l).map scoP)] := by
 refine spec_am Try.func10 rfl rfl mix 137 rfl [.tmp 4, .tmp 5] Try.results10 (Nat.le_of_ble_eq_true rfl) ?_
 (try (refine xst ?_; try exact xtI))
 refine cond_i (fun h1 => ?_) (fun h1 => ?_)
 ·(try replace h1 := xhh h1)
  omega
 ·(try replace h1 := xhh h1)
  (try (refine xst ?_; try exact xtI))
  refine cond_i (fun h2 => ?_) (fun h2 => ?_)
  ·(try replace h2 := xhh h2)
   omega
  ·(try replace h2 := xhh h2)
   (try (refine xst ?_; try exact xtI))
   refine loopI (fun k : Nat => ⟨[(23, I .i64 k), (22, I .i64 n), (6, .own 0), (1, .c (.sl 3 (l.map gamP))), (0, I .i64 n)], [(0, .row 37 3 ((iniL n k).map scoP))], 1⟩) (fun k : Nat => k ≤ n) (fun k : Nat => n - k) (0) (Nat.zero_le _) (To.mk [0] rfl rfl (by decide) ?_ ?_) ?_
   ·simp (etaStruct := .none) only [push_cast, DrawG, seval, iniL_0, Int.toNat_natCast]
   ·simp (etaStruct := .none) only [push_cast, DrawG, seval, List.length_replicate, Int.toNat_natCast]
   rintro k hk
   (try (refine xst ?_; try exact xtI))
   refine cond_i (fun h3 => ?_) (fun h3 => ?_)
   ·(try replace h3 := xhh h3)
    have hlt : k < (iniL n k).length := by rw [iniL_len]; omega
    have hs := iniL_s n k (by omega)
    have ha := iniL_at n k (by omega)
    (iterate 2 ((try simp (etaStruct := .none) only [push_cast, DrawG, seval, getD_in _ _ _ hlt, ha, scoP]); (try (refine xsu ?_; try exact xtI))))
    refine ⟨k + 1, by omega, by omega, To.mk [0] rfl rfl (by decide) ?_ ?_⟩
    ·simp (etaStruct := .none) only [push_cast, DrawG, seval, hs, scoP]
    ·(iterate 2 ((try simp (etaStruct := .none) only [push_cast, DrawG, seval, getD_in _ _ _ hlt, ha, scoP]); (try (refine xsu ?_; try exact xtI))))
   ·(try replace h3 := xhh h3)
    obtain rfl : n = k := by omega
    (try (refine xst ?_; try exact xtI))
    refine loopI (fun k : Nat => ⟨[(34, I .i64 k), (33, I .i64 l.length), (32, .c (.sl 3 (l.map gamP))), (6, .own 0), (0, I .i64 n)], [(0, .row 37 3 ((scoN n (l.take k)).map scoP))], 1⟩) (fun k : Nat => k ≤ l.length) (fun k : Nat => l.length - k) (0) (Nat.zero_le _) (To.mk [0] rfl rfl (by decide) ?_ ?_) ?_
    ·simp (etaStruct := .none) only [push_cast, DrawG, seval, iniL_n, List.take_zero]
    ·simp (etaStruct := .none) only [push_cast, DrawG, seval]
    rintro k hk2
    (try (refine xst ?_; try exact xtI))
    refine cond_i (fun h4 => ?_) (fun h4 => ?_)
    ·(try replace h4 := xhh h4)
     have hlt : k < l.length := by omega
     have ts := take_snoc l k hlt
     have hgk := gamR_iff.1 (hg k hlt)
     have hk3 : (l.take k).length = k := by rw [List.length_take]; omega
     obtain ⟨q, hq⟩ : ∃ q : Nat, (l.getD k default).a = q := ⟨(l.getD k default).a.toNat, by omega⟩
     obtain ⟨r, hr⟩ : ∃ r : Nat, (l.getD k default).b = r := ⟨(l.getD k default).b.toNat, by omega⟩
     have hqn : q < (scoN n (l.take k)).length := by rw [scoN_len]; omega
     have hrn : r < (scoN n (l.take k)).length := by rw [scoN_len]; omega
     have aq := scoN_at n (l.take k) q (by omega)
     have ar := scoN_at n (l.take k) r (by omega)
     have bq := ptsV_b (l.take k) q
     have br := ptsV_b (l.take k) r
     have gs : ∀ (i : Nat) (v : List PV), i < (scoN n (l.take k)).length → (((scoN n (l.take k)).map scoP).set i v).getD i [] = v := fun i v hi => by rw [List.getD_eq_getElem?_getD, List.getElem?_set_self (by rw [List.length_map]; exact hi)]; rfl
     have hqr : q ≠ r := by omega
     have gn : ∀ (v : List PV), (((scoN n (l.take k)).map scoP).set q v).getD r [] = ((scoN n (l.take k)).map scoP).getD r [] := fun v => by rw [List.getD_eq_getElem?_getD, List.getElem?_set_ne hqr, ← List.getD_eq_getElem?_getD]
     (iterate 2 ((try simp (etaStruct := .none) only [push_cast, DrawG, seval, getD_in _ _ _ hlt, gamP, hq, hr, Int.toNat_natCast]); (try (refine xsu ?_; try exact xtI))))
     refine cond_i (fun h5 => ?_) (fun h5 => ?_)
     ·(try replace h5 := xhh h5)
      omega
     ·(try replace h5 := xhh h5)
      (iterate 2 ((try simp (etaStruct := .none) only [push_cast, DrawG, seval, getD_in _ _ _ hlt, gamP, hq, hr, Int.toNat_natCast, getD_in _ _ _ hqn, getD_in _ _ _ hrn, aq, ar, scoF, scoP, gs _ _ hqn, gs _ _ hrn, gn, List.set_set]); (try (refine xsu ?_; try exact xtI))))
      refine cond_i (fun h6 => ?_) (fun h6 => ?_)
      ·(try replace h6 := xhh h6)
       have hs := scoN_win n (l.take k) (l.getD k default) q (by omega) (fun p => by rw [gamV_0 _ _ (by omega), hq])
       rw [← ts] at hs
       (iterate 2 ((try simp (etaStruct := .none) only [push_cast, DrawG, seval, getD_in _ _ _ hlt, gamP, hq, hr, Int.toNat_natCast, getD_in _ _ _ hqn, getD_in _ _ _ hrn, aq, ar, scoF, scoP, gs _ _ hqn, gs _ _ hrn, gn, List.set_set]); (try (refine xsu ?_; try exact xtI))))
       refine ⟨k + 1, by omega, by omega, To.mk [0] rfl rfl (by decide) ?_ ?_⟩
       ·simp (etaStruct := .none) only [push_cast, DrawG, seval, hs, List.map_set, scoP]
       ·(iterate 2 ((try simp (etaStruct := .none) only [push_cast, DrawG, seval, getD_in _ _ _ hlt, gamP, hq, hr, Int.toNat_natCast, getD_in _ _ _ hqn, getD_in _ _ _ hrn, aq, ar, scoF, scoP, gs _ _ hqn, gs _ _ hrn, gn, List.set_set]); (try (refine xsu ?_; try exact xtI))))
      ·(try replace h6 := xhh h6)
       (iterate 2 ((try simp (etaStruct := .none) only [push_cast, DrawG, seval, getD_in _ _ _ hlt, gamP, hq, hr, Int.toNat_natCast, getD_in _ _ _ hqn, getD_in _ _ _ hrn, aq, ar, scoF, scoP, gs _ _ hqn, gs _ _ hrn, gn, List.set_set]); (try (refine xsu ?_; try exact xtI))))
       refine cond_i (fun h7 => ?_) (fun h7 => ?_)
       ·(try replace h7 := xhh h7)
        have hs := scoN_win n (l.take k) (l.getD k default) r (by omega) (fun p => by rw [gamV_1 _ _ (by omega), hr])
        rw [← ts] at hs
        (iterate 2 ((try simp (etaStruct := .none) only [push_cast, DrawG, seval, getD_in _ _ _ hlt, gamP, hq, hr, Int.toNat_natCast, getD_in _ _ _ hqn, getD_in _ _ _ hrn, aq, ar, scoF, scoP, gs _ _ hqn, gs _ _ hrn, gn, List.set_set]); (try (refine xsu ?_; try exact xtI))))
        refine ⟨k + 1, by omega, by omega, To.mk [0] rfl rfl (by decide) ?_ ?_⟩
        ·simp (etaStruct := .none) only [push_cast, DrawG, seval, hs, List.map_set, scoP]
        ·(iterate 2 ((try simp (etaStruct := .none) only [push_cast, DrawG, seval, getD_in _ _ _ hlt, gamP, hq, hr, Int.toNat_natCast, getD_in _ _ _ hqn, getD_in _ _ _ hrn, aq, ar, scoF, scoP, gs _ _ hqn, gs _ _ hrn, gn, List.set_set]); (try (refine xsu ?_; try exact xtI))))
       ·(try replace h7 := xhh h7)
        have hs := scoN_draw n (l.take k) (l.getD k default) q r (by omega) (by omega) (by omega) (fun p => by rw [gamV_2 _ _ (by omega), hq, hr])
        rw [← ts] at hs
        (iterate 2 ((try simp (etaStruct := .none) only [push_cast, DrawG, seval, getD_in _ _ _ hlt, gamP, hq, hr, Int.toNat_natCast, getD_in _ _ _ hqn, getD_in _ _ _ hrn, aq, ar, scoF, scoP, gs _ _ hqn, gs _ _ hrn, gn, List.set_set]); (try (refine xsu ?_; try exact xtI))))
        refine ⟨k + 1, by omega, by omega, To.mk [0] rfl rfl (by decide) ?_ ?_⟩
        ·simp (etaStruct := .none) only [push_cast, DrawG, seval, hs, List.map_set, scoP]
        ·(iterate 2 ((try simp (etaStruct := .none) only [push_cast, DrawG, seval, getD_in _ _ _ hlt, gamP, hq, hr, Int.toNat_natCast, getD_in _ _ _ hqn, getD_in _ _ _ hrn, aq, ar, scoF, scoP, gs _ _ hqn, gs _ _ hrn, gn, List.set_set]); (try (refine xsu ?_; try exact xtI))))
    ·(try replace h4 := xhh h4)
     obtain rfl : k = l.length := by omega
     (iterate 2 ((try simp (etaStruct := .none) only [push_cast, DrawG, seval, List.take_length]); (try (refine xsu ?_; try exact xtI))))
     exact retM [0] rfl rfl (by decide) ⟨⟨rfl, rfl, rfl⟩, trivial⟩ (by repeat' (first | exact trivial | exact rfl | refine ⟨?_, ?_⟩)) (Wk.refl _)
theorem scores_bad (n : Int) (l : List Gam) (hl : l.length ≤ 9223372036854775807) (hE : gamsE n l ≠ 0) : Spec Try.prog 10 [I .i64 n, .c (.sl 3 (l.map gamP))] [] (.tup [.c (.v (.slice none 0 0)), I .i64 (gamsE n l)]) [] := by
 refine spec_am Try.func10 rfl rfl mix 137 rfl [.tmp 4, .tmp 5] Try.results10 (Nat.le_of_ble_eq_true rfl) ?_
 (try (refine xst ?_; try exact xtI))
 refine cond_i (fun h1 => ?_) (fun h1 => ?_)
 ·(try replace h1 := xhh h1)
  have e : gamsE n l = 1 := by unfold gamsE; rw [if_pos (by omega)]
  (try (refine xst ?_; try exact xtI))
  exact ret0 rfl (by repeat' (first | exact trivial | exact rfl | refine ⟨?_, ?_⟩)) (Wk.of (by rw [e]; rfl))
 ·(try replace h1 := xhh h1)
  obtain ⟨n, rfl⟩ : ∃ m : Nat, n = m := ⟨n.toNat, by omega⟩
  have hn : 1 ≤ n ∧ n ≤ 64 := by omega
  (try (refine xst ?_; try exact xtI))
  refine cond_i (fun h2 => ?_) (fun h2 => ?_)
  ·(try replace h2 := xhh h2)
   have e : gamsE n l = 2 := by unfold gamsE; rw [if_neg (by omega), if_pos (by omega)]
   (try (refine xst ?_; try exact xtI))
   exact ret0 rfl (by repeat' (first | exact trivial | exact rfl | refine ⟨?_, ?_⟩)) (Wk.of (by rw [e]; rfl))
  ·(try replace h2 := xhh h2)
   (try (refine xst ?_; try exact xtI))
   refine loopI (fun k : Nat => ⟨[(23, I .i64 k), (22, I .i64 n), (6, .own 0), (1, .c (.sl 3 (l.map gamP))), (0, I .i64 n)], [(0, .row 37 3 ((iniL n k).map scoP))], 1⟩) (fun k : Nat => k ≤ n) (fun k : Nat => n - k) (0) (Nat.zero_le _) (To.mk [0] rfl rfl (by decide) ?_ ?_) ?_
   ·simp (etaStruct := .none) only [push_cast, DrawG, seval, iniL_0, Int.toNat_natCast]
   ·simp (etaStruct := .none) only [push_cast, DrawG, seval, List.length_replicate, Int.toNat_natCast]
   rintro k hk
   (try (refine xst ?_; try exact xtI))
   refine cond_i (fun h3 => ?_) (fun h3 => ?_)
   ·(try replace h3 := xhh h3)
    have hlt : k < (iniL n k).length := by rw [iniL_len]; omega
    have hs := iniL_s n k (by omega)
    have ha := iniL_at n k (by omega)
    (iterate 2 ((try simp (etaStruct := .none) only [push_cast, DrawG, seval, getD_in _ _ _ hlt, ha, scoP]); (try (refine xsu ?_; try exact xtI))))
    refine ⟨k + 1, by omega, by omega, To.mk [0] rfl rfl (by decide) ?_ ?_⟩
    ·simp (etaStruct := .none) only [push_cast, DrawG, seval, hs, scoP]
    ·(iterate 2 ((try simp (etaStruct := .none) only [push_cast, DrawG, seval, getD_in _ _ _ hlt, ha, scoP]); (try (refine xsu ?_; try exact xtI))))
   ·(try replace h3 := xhh h3)
    obtain rfl : n = k := by omega
    (try (refine xst ?_; try exact xtI))
    refine loopI (fun k : Nat => ⟨[(34, I .i64 k), (33, I .i64 l.length), (32, .c (.sl 3 (l.map gamP))), (6, .own 0), (0, I .i64 n)], [(0, .row 37 3 ((scoN n (l.take k)).map scoP))], 1⟩) (fun k : Nat => k ≤ l.length ∧ ∀ j, j < k → gamR n (l.getD j default) = true) (fun k : Nat => l.length - k) (0) (⟨Nat.zero_le _, fun j h => by omega⟩) (To.mk [0] rfl rfl (by decide) ?_ ?_) ?_
    ·simp (etaStruct := .none) only [push_cast, DrawG, seval, iniL_n, List.take_zero]
    ·simp (etaStruct := .none) only [push_cast, DrawG, seval]
    rintro k hk2
    (try (refine xst ?_; try exact xtI))
    refine cond_i (fun h4 => ?_) (fun h4 => ?_)
    ·(try replace h4 := xhh h4)
     have hlt : k < l.length := by omega
     have ts := take_snoc l k hlt
     have hk3 : (l.take k).length = k := by rw [List.length_take]; omega
     (iterate 2 ((try simp (etaStruct := .none) only [push_cast, DrawG, seval, getD_in _ _ _ hlt, gamP]); (try (refine xsu ?_; try exact xtI))))
     refine cond_i (fun h5 => ?_) (fun h5 => ?_)
     ·(try replace h5 := xhh h5)
      have e : gamsE n l = 4 := gamsE_4 (by omega) (by omega) k hlt (fun hg => by have hg := gamR_iff.1 hg; omega)
      (iterate 2 ((try simp (etaStruct := .none) only [push_cast, DrawG, seval, getD_in _ _ _ hlt, gamP]); (try (refine xsu ?_; try exact xtI))))
      exact ret0 rfl (by repeat' (first | exact trivial | exact rfl | refine ⟨?_, ?_⟩)) (Wk.of (by rw [e]; rfl))
     ·(try replace h5 := xhh h5)
      have hgk : gamR n (l.getD k default) = true := gamR_iff.2 (by omega)
      have hgj : ∀ j, j < k + 1 → gamR n (l.getD j default) = true := fun j hj => by
       rcases Nat.lt_or_ge j k with h | h
       ·exact hk2.2 j h
       ·rw [show j = k by omega]; exact hgk
      have hgk := gamR_iff.1 hgk
      obtain ⟨q, hq⟩ : ∃ q : Nat, (l.getD k default).a = q := ⟨(l.getD k default).a.toNat, by omega⟩
      obtain ⟨r, hr⟩ : ∃ r : Nat, (l.getD k default).b = r := ⟨(l.getD k default).b.toNat, by omega⟩
      have hqn : q < (scoN n (l.take k)).length := by rw [scoN_len]; omega
      have hrn : r < (scoN n (l.take k)).length := by rw [scoN_len]; omega
      have aq := scoN_at n (l.take k) q (by omega)
      have ar := scoN_at n (l.take k) r (by omega)
      have bq := ptsV_b (l.take k) q
      have br := ptsV_b (l.take k) r
      have gs : ∀ (i : Nat) (v : List PV), i < (scoN n (l.take k)).length → (((scoN n (l.take k)).map scoP).set i v).getD i [] = v := fun i v hi => by rw [List.getD_eq_getElem?_getD, List.getElem?_set_self (by rw [List.length_map]; exact hi)]; rfl
      have hqr : q ≠ r := by omega
      have gn : ∀ (v : List PV), (((scoN n (l.take k)).map scoP).set q v).getD r [] = ((scoN n (l.take k)).map scoP).getD r [] := fun v => by rw [List.getD_eq_getElem?_getD, List.getElem?_set_ne hqr, ← List.getD_eq_getElem?_getD]
      (iterate 2 ((try simp (etaStruct := .none) only [push_cast, DrawG, seval, getD_in _ _ _ hlt, gamP, hq, hr, Int.toNat_natCast, getD_in _ _ _ hqn, getD_in _ _ _ hrn, aq, ar, scoF, scoP, gs _ _ hqn, gs _ _ hrn, gn, List.set_set]); (try (refine xsu ?_; try exact xtI))))
      refine cond_i (fun h6 => ?_) (fun h6 => ?_)
      ·(try replace h6 := xhh h6)
       have hs := scoN_win n (l.take k) (l.getD k default) q (by omega) (fun p => by rw [gamV_0 _ _ (by omega), hq])
       rw [← ts] at hs
       (iterate 2 ((try simp (etaStruct := .none) only [push_cast, DrawG, seval, getD_in _ _ _ hlt, gamP, hq, hr, Int.toNat_natCast, getD_in _ _ _ hqn, getD_in _ _ _ hrn, aq, ar, scoF, scoP, gs _ _ hqn, gs _ _ hrn, gn, List.set_set]); (try (refine xsu ?_; try exact xtI))))
       refine ⟨k + 1, ⟨by omega, hgj⟩, by omega, To.mk [0] rfl rfl (by decide) ?_ ?_⟩
       ·simp (etaStruct := .none) only [push_cast, DrawG, seval, hs, List.map_set, scoP]
       ·(iterate 2 ((try simp (etaStruct := .none) only [push_cast, DrawG, seval, getD_in _ _ _ hlt, gamP, hq, hr, Int.toNat_natCast, getD_in _ _ _ hqn, getD_in _ _ _ hrn, aq, ar, scoF, scoP, gs _ _ hqn, gs _ _ hrn, gn, List.set_set]); (try (refine xsu ?_; try exact xtI))))
      ·(try replace h6 := xhh h6)
       (iterate 2 ((try simp (etaStruct := .none) only [push_cast, DrawG, seval, getD_in _ _ _ hlt, gamP, hq, hr, Int.toNat_natCast, getD_in _ _ _ hqn, getD_in _ _ _ hrn, aq, ar, scoF, scoP, gs _ _ hqn, gs _ _ hrn, gn, List.set_set]); (try (refine xsu ?_; try exact xtI))))
       refine cond_i (fun h7 => ?_) (fun h7 => ?_)
       ·(try replace h7 := xhh h7)
        have hs := scoN_win n (l.take k) (l.getD k default) r (by omega) (fun p => by rw [gamV_1 _ _ (by omega), hr])
        rw [← ts] at hs
        (iterate 2 ((try simp (etaStruct := .none) only [push_cast, DrawG, seval, getD_in _ _ _ hlt, gamP, hq, hr, Int.toNat_natCast, getD_in _ _ _ hqn, getD_in _ _ _ hrn, aq, ar, scoF, scoP, gs _ _ hqn, gs _ _ hrn, gn, List.set_set]); (try (refine xsu ?_; try exact xtI))))
        refine ⟨k + 1, ⟨by omega, hgj⟩, by omega, To.mk [0] rfl rfl (by decide) ?_ ?_⟩
        ·simp (etaStruct := .none) only [push_cast, DrawG, seval, hs, List.map_set, scoP]
        ·(iterate 2 ((try simp (etaStruct := .none) only [push_cast, DrawG, seval, getD_in _ _ _ hlt, gamP, hq, hr, Int.toNat_natCast, getD_in _ _ _ hqn, getD_in _ _ _ hrn, aq, ar, scoF, scoP, gs _ _ hqn, gs _ _ hrn, gn, List.set_set]); (try (refine xsu ?_; try exact xtI))))
       ·(try replace h7 := xhh h7)
        have hs := scoN_draw n (l.take k) (l.getD k default) q r (by omega) (by omega) (by omega) (fun p => by rw [gamV_2 _ _ (by omega), hq, hr])
        rw [← ts] at hs
        (iterate 2 ((try simp (etaStruct := .none) only [push_cast, DrawG, seval, getD_in _ _ _ hlt, gamP, hq, hr, Int.toNat_natCast, getD_in _ _ _ hqn, getD_in _ _ _ hrn, aq, ar, scoF, scoP, gs _ _ hqn, gs _ _ hrn, gn, List.set_set]); (try (refine xsu ?_; try exact xtI))))
        refine ⟨k + 1, ⟨by omega, hgj⟩, by omega, To.mk [0] rfl rfl (by decide) ?_ ?_⟩
        ·simp (etaStruct := .none) only [push_cast, DrawG, seval, hs, List.map_set, scoP]
        ·(iterate 2 ((try simp (etaStruct := .none) only [push_cast, DrawG, seval, getD_in _ _ _ hlt, gamP, hq, hr, Int.toNat_natCast, getD_in _ _ _ hqn, getD_in _ _ _ hrn, aq, ar, scoF, scoP, gs _ _ hqn, gs _ _ hrn, gn, List.set_set]); (try (refine xsu ?_; try exact xtI))))
    ·(try replace h4 := xhh h4)
     exact absurd (gamsE_0 (by omega) (by omega) (fun j hj => hk2.2 j (by omega))) hE
theorem mpoints_ok (n : Nat) (l : List Gam) (hl : l.length ≤ 9223372036854775807) (hE : gamsE n l = 0) (hn : 1 ≤ n ∧ n ≤ 64) (h3 : l.length ≤ 3000) (hg : ∀ j, j < l.length → gamR n (l.getD j default) = true) : Spec Try.prog 4 [I .i64 n, .c (.sl 3 (l.map gamP))] [] (.tup [.c (.sl 1 (((scoN n l).map Sco.points).map i64P)), I .i64 0]) [] := by
 refine spec_am Try.func4 rfl rfl mix 33 rfl [.tmp 4, .tmp 5] Try.results4 (Nat.le_of_ble_eq_true rfl) ?_
 (try (refine xst ?_; try exact xtI))
 refine caM [] (scores_ok n l hl hE hn h3 hg) ?_
 (try (refine xst ?_; try exact xtI))
 refine cond_i (fun h1 => ?_) (fun h1 => ?_)
 ·(try replace h1 := xhh h1)
  exact absurd h1 (by decide)
 ·(try replace h1 := xhh h1)
  (try (refine xst ?_; try exact xtI))
  refine loopI (fun k : Nat => ⟨[(22, I .i64 k), (21, I .i64 (scoN n l).length), (20, .own 0), (8, .own 1)], [(0, .row 37 3 ((scoN n l).map scoP)), (1, .row 3 1 ((((scoN n l).take k).map Sco.points).map i64P))], 2⟩) (fun k : Nat => k ≤ (scoN n l).length) (fun k : Nat => (scoN n l).length - k) (0) (Nat.zero_le _) ((To.nil 8 3 1 rfl).trans (To.mk [0, 1] rfl rfl (by decide) ?_ ?_)) ?_
  ·simp (etaStruct := .none) only [push_cast, DrawG, seval, List.take_zero, List.map_nil]
  ·simp (etaStruct := .none) only [push_cast, DrawG, seval]
  rintro k hk
  (try (refine xst ?_; try exact xtI))
  refine cond_i (fun h2 => ?_) (fun h2 => ?_)
  ·(try replace h2 := xhh h2)
   have hlt : k < (scoN n l).length := by omega
   have ts := take_snoc (scoN n l) k hlt
   have hk3 : ((scoN n l).take k).length = k := by rw [List.length_take]; omega
   have hn' := scoN_len n l
   (iterate 2 ((try simp (etaStruct := .none) only [push_cast, DrawG, seval, getD_in _ _ _ hlt, scoP]); (try (refine xsu ?_; try exact xtI))))
   refine ⟨k + 1, by omega, by omega, To.mk [0, 4] rfl rfl (by decide) ?_ ?_⟩
   ·(iterate 2 ((try simp (etaStruct := .none) only [push_cast, DrawG, seval, ts, List.map_append, i64P]); (try (refine xsu ?_; try exact xtI))))
   ·(iterate 2 ((try simp (etaStruct := .none) only [push_cast, DrawG, seval, getD_in _ _ _ hlt, scoP]); (try (refine xsu ?_; try exact xtI))))
  ·(try replace h2 := xhh h2)
   obtain rfl : k = (scoN n l).length := by omega
   (iterate 2 ((try simp (etaStruct := .none) only [push_cast, DrawG, seval, List.take_length]); (try (refine xsu ?_; try exact xtI))))
   exact xrz rfl
theorem mpoints_bad (n : Int) (l : List Gam) (hl : l.length ≤ 9223372036854775807) (hE : gamsE n l ≠ 0) : Spec Try.prog 4 [I .i64 n, .c (.sl 3 (l.map gamP))] [] (.tup [.c (.v (.slice none 0 0)), I .i64 (gamsE n l)]) [] := by
 refine spec_am Try.func4 rfl rfl mix 33 rfl [.tmp 4, .tmp 5] Try.results4 (Nat.le_of_ble_eq_true rfl) ?_
 (try (refine xst ?_; try exact xtI))
 refine caP (scores_bad n l hl hE) ?_
 (try (refine xst ?_; try exact xtI))
 refine cond_i (fun h1 => ?_) (fun h1 => ?_)
 ·(try replace h1 := xhh h1)
  (try (refine xst ?_; try exact xtI))
  exact xrz rfl
 ·(try replace h1 := xhh h1)
  exact absurd h1 hE
theorem msort_s (n : Nat) (l : List Gam) (h0 : 0 < n) (hn : n ≤ 64) : Spec Try.prog 11 [.own 0, .clo (.func 12) [] []] [.row 37 3 ((scoN n l).map scoP)] (.tup []) [.row 37 3 ((tabT (scoN n l)).map scoP)] := by
 have hl := scoN_len n l
 exact sort_s laySort (enters Try.func11 (by kernel_rfl) rfl) 3 (by decide) Try.isAgg37 Try.sizeOf37 scoE (fun _ => rfl) (fun x v hv => by simp only [scoE, List.mem_cons, List.not_mem_nil, or_false] at hv; rcases hv with rfl | rfl | rfl <;> rfl) cfT swo_cfT 12 (enters_of Try.func12 (by kernel_rfl) rfl) cmpAll_T 37 (scoN n l) (tabT (scoN n l)) (by omega) (by omega) (fun d' hp hs => table_sort n l d' hp hs)
theorem mtable_ok (n : Nat) (l : List Gam) (hl : l.length ≤ 9223372036854775807) (hE : gamsE n l = 0) (hn : 1 ≤ n ∧ n ≤ 64) (h3 : l.length ≤ 3000) (hg : ∀ j, j < l.length → gamR n (l.getD j default) = true) : Spec Try.prog 5 [I .i64 n, .c (.sl 3 (l.map gamP))] [] (.tup [.c (.sl 1 ((tableV n l).map i64P)), I .i64 0]) [] := by
 refine spec_am Try.func5 rfl rfl mix 35 rfl [.tmp 4, .tmp 5] Try.results5 (Nat.le_of_ble_eq_true rfl) ?_
 (try (refine xst ?_; try exact xtI))
 refine caM [] (scores_ok n l hl hE hn h3 hg) ?_
 (try (refine xst ?_; try exact xtI))
 refine cond_i (fun h1 => ?_) (fun h1 => ?_)
 ·(try replace h1 := xhh h1)
  exact absurd h1 (by decide)
 ·(try replace h1 := xhh h1)
  (try (refine xst ?_; try exact xtI))
  refine caM [0] (msort_s n l (by omega) (by omega)) ?_
  (try (refine xst ?_; try exact xtI))
  refine loopI (fun k : Nat => ⟨[(24, I .i64 k), (23, I .i64 (tabT (scoN n l)).length), (22, .own 0), (8, .own 1)], [(0, .row 37 3 ((tabT (scoN n l)).map scoP)), (1, .row 3 1 ((((tabT (scoN n l)).take k).map Sco.player).map i64P))], 2⟩) (fun k : Nat => k ≤ (tabT (scoN n l)).length) (fun k : Nat => (tabT (scoN n l)).length - k) (0) (Nat.zero_le _) ((To.nil 8 3 1 rfl).trans (To.mk [0, 1] rfl rfl (by decide) ?_ ?_)) ?_
  ·simp (etaStruct := .none) only [push_cast, DrawG, seval, List.take_zero, List.map_nil]
  ·simp (etaStruct := .none) only [push_cast, DrawG, seval]
  rintro k hk
  (try (refine xst ?_; try exact xtI))
  refine cond_i (fun h2 => ?_) (fun h2 => ?_)
  ·(try replace h2 := xhh h2)
   have hlt : k < (tabT (scoN n l)).length := by omega
   have ts := take_snoc (tabT (scoN n l)) k hlt
   have hk3 : ((tabT (scoN n l)).take k).length = k := by rw [List.length_take]; omega
   have hn' : (tabT (scoN n l)).length = n := by rw [(tabT_ok _ (scoN_up n l)).1.length_eq, scoN_len]
   (iterate 2 ((try simp (etaStruct := .none) only [push_cast, DrawG, seval, getD_in _ _ _ hlt, scoP]); (try (refine xsu ?_; try exact xtI))))
   refine ⟨k + 1, by omega, by omega, To.mk [0, 4] rfl rfl (by decide) ?_ ?_⟩
   ·(iterate 2 ((try simp (etaStruct := .none) only [push_cast, DrawG, seval, ts, List.map_append, i64P]); (try (refine xsu ?_; try exact xtI))))
   ·(iterate 2 ((try simp (etaStruct := .none) only [push_cast, DrawG, seval, getD_in _ _ _ hlt, scoP]); (try (refine xsu ?_; try exact xtI))))
  ·(try replace h2 := xhh h2)
   obtain rfl : k = (tabT (scoN n l)).length := by omega
   (iterate 2 ((try simp (etaStruct := .none) only [push_cast, DrawG, seval, List.take_length, tableV]); (try (refine xsu ?_; try exact xtI))))
   exact xrz rfl
theorem mtable_bad (n : Int) (l : List Gam) (hl : l.length ≤ 9223372036854775807) (hE : gamsE n l ≠ 0) : Spec Try.prog 5 [I .i64 n, .c (.sl 3 (l.map gamP))] [] (.tup [.c (.v (.slice none 0 0)), I .i64 (gamsE n l)]) [] := by
 refine spec_am Try.func5 rfl rfl mix 35 rfl [.tmp 4, .tmp 5] Try.results5 (Nat.le_of_ble_eq_true rfl) ?_
 (try (refine xst ?_; try exact xtI))
 refine caP (scores_bad n l hl hE) ?_
 (try (refine xst ?_; try exact xtI))
 refine cond_i (fun h1 => ?_) (fun h1 => ?_)
 ·(try replace h1 := xhh h1)
  (try (refine xst ?_; try exact xtI))
  exact xrz rfl
 ·(try replace h1 := xhh h1)
  exact absurd h1 hE
def betP (l : List Gam) (a b j : Int) : Bool := decide ((ptsV l j).1 < a) || decide (a = (ptsV l j).1) && decide ((ptsV l j).2 < b)
theorem betP_iff {l : List Gam} {a b j : Int} : betP l a b j = true ↔ ((ptsV l j).1 < a ∨ (ptsV l j).1 = a ∧ (ptsV l j).2 < b) := by
 unfold betP
 rw [Bool.or_eq_true, Bool.and_eq_true, decide_eq_true_iff, decide_eq_true_iff, decide_eq_true_iff]
 omega
theorem tclo_s (l : List Gam) (hl : l.length ≤ 3000) (a b j : Int) : Spec Try.prog 17 [I .i64 j, .ptr 0 0 0, .ptr 1 0 0, .ptr 2 0 0] [.blk 22 [.c (.sl 3 (l.map gamP))], .blk 3 [I .i64 a], .blk 3 [I .i64 b]] (B (betP l a b j)) [.blk 22 [.c (.sl 3 (l.map gamP))], .blk 3 [I .i64 a], .blk 3 [I .i64 b]] := by
 refine spec_am Try.func17 rfl rfl mix 27 rfl [.tmp 5] Try.results17 (Nat.le_of_ble_eq_true rfl) ?_
 (try (refine xst ?_; try exact xtI))
 refine caP (pointsOf_s l j hl) ?_
 (try (refine xst ?_; try exact xtI))
 refine retM [0, 1, 2] rfl rfl (by decide) ⟨?_, ?_, ?_, trivial⟩ trivial ?_ <;> simp (etaStruct := .none) only [push_cast, DrawG, seval, betP]
theorem tix_s (l : List Gam) (hl : l.length ≤ 3000) (a b : Int) (xs : List Int) (hx : xs.length ≤ 1000000) : Spec Try.prog 16 [.own 0, .clo (.func 17) [] [.ptr 1 0 0, .ptr 2 0 0, .ptr 3 0 0]] [.row 3 1 (xs.map i64P), .blk 22 [.c (.sl 3 (l.map gamP))], .blk 3 [I .i64 a], .blk 3 [I .i64 b]] (I .i64 (ixOf (betP l a b) xs)) [.row 3 1 (xs.map i64P), .blk 22 [.c (.sl 3 (l.map gamP))], .blk 3 [I .i64 a], .blk 3 [I .i64 b]] := by
 refine spec_am Try.func16 rfl rfl mix 19 rfl [.tmp 4] Try.results16 (Nat.le_of_ble_eq_true rfl) ?_
 (try (refine xst ?_; try exact xtI))
 refine loopI (fun k : Nat => ⟨[(8, I .i64 k), (7, I .i64 xs.length), (1, .clo (.func 17) [] [.ptr 1 0 0, .ptr 2 0 0, .ptr 3 0 0]), (0, .own 0)], [(0, .row 3 1 (xs.map i64P)), (1, .blk 22 [.c (.sl 3 (l.map gamP))]), (2, .blk 3 [I .i64 a]), (3, .blk 3 [I .i64 b])], 4⟩) (fun k : Nat => k ≤ xs.length ∧ ∀ j (hj : j < xs.length), j < k → betP l a b xs[j] = false) (fun k : Nat => xs.length - k) (0) (⟨Nat.zero_le _, fun j _ h => absurd h (Nat.not_lt_zero _)⟩) (To.mk [0, 1, 2, 3] rfl rfl (by decide) ?_ ?_) ?_
 ·simp (etaStruct := .none) only [push_cast, DrawG, seval]
 ·simp (etaStruct := .none) only [push_cast, DrawG, seval]
 rintro k ⟨hk, hno⟩
 (try (refine xst ?_; try exact xtI))
 refine cond_i (fun h1 => ?_) (fun h1 => ?_)
 ·(try replace h1 := xhh h1)
  have hlt : k < xs.length := by omega
  (iterate 2 ((try simp (etaStruct := .none) only [push_cast, DrawG, seval, getD_in _ _ _ hlt, i64P]); (try (refine xsu ?_; try exact xtI))))
  refine caM [1, 2, 3] (tclo_s l hl a b (xs.getD k default)) ?_
  (iterate 2 ((try simp (etaStruct := .none) only [push_cast, DrawG, seval, getD_in _ _ _ hlt, i64P]); (try (refine xsu ?_; try exact xtI))))
  refine cond_i (fun h2 => ?_) (fun h2 => ?_)
  ·(try replace h2 := xhh h2)
   have e := ixOf_hit (betP l a b) xs k hlt (by rw [← getD_at xs k hlt]; exact h2) hno
   rw [e]
   (iterate 2 ((try simp (etaStruct := .none) only [push_cast, DrawG, seval, getD_in _ _ _ hlt, i64P]); (try (refine xsu ?_; try exact xtI))))
   refine retM [0, 1, 2, 3] rfl rfl (by decide) ⟨?_, ?_, ?_, ?_, trivial⟩ trivial ?_ <;> simp (etaStruct := .none) only [push_cast, DrawG, seval]
  ·(try replace h2 := xhh h2)
   have hno2 : ∀ j (hj : j < xs.length), j < k + 1 → betP l a b xs[j] = false := fun j hj h => by
    rcases Nat.lt_or_ge j k with h3 | h3
    ·exact hno j hj h3
    ·obtain rfl : j = k := by omega
     rw [← getD_at xs j hj]; exact h2
   (iterate 2 ((try simp (etaStruct := .none) only [push_cast, DrawG, seval, getD_in _ _ _ hlt, i64P]); (try (refine xsu ?_; try exact xtI))))
   refine ⟨k + 1, ⟨by omega, hno2⟩, by omega, To.mk [0, 1, 2, 3] rfl rfl (by decide) ?_ ?_⟩
   ·(iterate 2 ((try simp (etaStruct := .none) only [push_cast, DrawG, seval, getD_in _ _ _ hlt, i64P]); (try (refine xsu ?_; try exact xtI))))
   ·(iterate 2 ((try simp (etaStruct := .none) only [push_cast, DrawG, seval, getD_in _ _ _ hlt, i64P]); (try (refine xsu ?_; try exact xtI))))
 ·(try replace h1 := xhh h1)
  have e := ixOf_miss (betP l a b) xs (fun j hj => hno j hj (by omega))
  rw [e]
  (try (refine xst ?_; try exact xtI))
  refine retM [0, 1, 2, 3] rfl rfl (by decide) ⟨?_, ?_, ?_, ?_, trivial⟩ trivial ?_ <;> simp (etaStruct := .none) only [push_cast, DrawG, seval]
end Go.Proofs.Ytddbnknkjaffbaa
namespace Go.Proofs.Ytddbnknkjaffbaa
set_option linter.all false
open Go.RowKit Go.Shelf
set_option maxRecDepth 100000
set_option maxHeartbeats 1000000
def layIns_ren : Go.Shelf.Ren := ⟨fun | 21 => 18 | 27 => 22 | 28 => 23 | 35 => 34 | 39 => 40 | n => n, fun | 0 => 0 | 3 => 3 | 4 => 4 | 22 => 23 | n => n, fun | n => n⟩
theorem layIns : Lays2.n21 Try.prog layIns_ren := {
 mixed := by kernel_rfl
 f21 := Try.func18.trans (congrArg some (by kernel_rfl))
 f27 := Try.func22.trans (congrArg some (by kernel_rfl))
 f28 := Try.func23.trans (congrArg some (by kernel_rfl))
 f35 := Try.func34.trans (congrArg some (by kernel_rfl))
 f39 := Try.func40.trans (congrArg some (by kernel_rfl))
 t0 := Try.underlying0
 a0 := Try.isAgg0
 z0 := Try.sizeOf0
 v0 := Try.zeroValue0
 t3 := Try.underlying3
 a3 := Try.isAgg3
 z3 := Try.sizeOf3
 v3 := Try.zeroValue3
 t4 := Try.underlying4
 a4 := Try.isAgg4
 z4 := Try.sizeOf4
 v4 := Try.zeroValue4
 t22 := Try.underlying23
 a22 := Try.isAgg23
 z22 := Try.sizeOf23
 v22 := Try.zeroValue23
 i3 := by kernel_rfl }
theorem ins_s (xs : List Int) (i : Nat) (hi : i ≤ xs.length) (hsm : xs.length ≤ 1000000) (x : Int) : Spec Try.prog 18 [.own 0, I .i64 i, .own 1] [.row 3 1 (xs.map i64P), .row 3 1 [i64P x]] (.own 2) [.dead, .dead, .row 3 1 ((xs.take i ++ x :: xs.drop i).map i64P)] :=
 insert_s layIns (enters Try.func18 (by kernel_rfl) rfl) xs i hi hsm x
end Go.Proofs.Ytddbnknkjaffbaa
namespace Go.Proofs.Ytddbnknkjaffbaa
set_option linter.all false
open Go.RowKit
set_option maxRecDepth 100000
set_option maxHeartbeats 1000000
theorem ix_neg {α : Type} {p : α → Bool} {xs : List α} (h : ixOf p xs < 0) : xs.findIdx p = xs.length := by
 unfold ixOf at h
 cases h' : xs.findIdx? p with
 | none => exact List.findIdx?_eq_none_iff_findIdx_eq.1 h'
 | some i => rw [h'] at h; simp only at h; omega
theorem ix_pos {α : Type} {p : α → Bool} {xs : List α} (h : 0 ≤ ixOf p xs) : ixOf p xs = (xs.findIdx p : Nat) ∧ xs.findIdx p < xs.length := by
 unfold ixOf at h ⊢
 cases h' : xs.findIdx? p with
 | none => rw [h'] at h; simp only at h; omega
 | some i =>
  obtain ⟨h1, h2⟩ := List.findIdx?_eq_some_iff_findIdx_eq.1 h'
  exact ⟨by simp only [h2], by omega⟩
theorem findIdx_same {α : Type} {p q : α → Bool} : ∀ {l : List α}, (∀ x ∈ l, p x = q x) → l.findIdx p = l.findIdx q
 | [], _ => rfl
 | x :: r, h => by
  rw [List.findIdx_cons, List.findIdx_cons, h x List.mem_cons_self, findIdx_same fun y hy => h y (List.mem_cons_of_mem _ hy)]
def tabI (n : Nat) (l : List Gam) (k : Nat) : List Int := (tabT ((scoN n l).take k)).map Sco.player
theorem tab_perm (n : Nat) (l : List Gam) (k : Nat) : (tabT ((scoN n l).take k)).Perm ((scoN n l).take k) := (tabT_ok _ ((scoN_up n l).sublist (List.take_sublist _ _))).1
theorem tabI_len (n : Nat) (l : List Gam) (k : Nat) (hk : k ≤ n) : (tabI n l k).length = k := by
 unfold tabI; rw [List.length_map, (tab_perm n l k).length_eq, List.length_take, scoN_len]; omega
theorem tabI_0 (n : Nat) (l : List Gam) : tabI n l 0 = [] := rfl
theorem tabI_n (n : Nat) (l : List Gam) : tabI n l n = tableV n l := by
 unfold tabI tableV; rw [List.take_of_length_le (by rw [scoN_len]; omega)]
theorem tab_step (n : Nat) (l : List Gam) (k : Nat) (hk : k < n) : (tabI n l k).take ((tabI n l k).findIdx (betP l (ptsV l k).1 (ptsV l k).2)) ++ (k : Int) :: (tabI n l k).drop ((tabI n l k).findIdx (betP l (ptsV l k).1 (ptsV l k).2)) = tabI n l (k + 1) := by
 have e : tabI n l (k + 1) = (insT (tabT ((scoN n l).take k)) (scoF l k)).map Sco.player := by
  unfold tabI
  rw [take_snoc _ _ (by rw [scoN_len]; exact hk), tabT_snoc, scoN_at _ _ _ hk]
 have hi : (tabI n l k).findIdx (betP l (ptsV l k).1 (ptsV l k).2) = (tabT ((scoN n l).take k)).findIdx fun o => decide (o.points < (scoF l k).points ∨ o.points = (scoF l k).points ∧ o.won < (scoF l k).won) := by
  unfold tabI
  rw [List.findIdx_map]
  refine findIdx_same fun o ho => ?_
  have hm := List.mem_of_mem_take ((tab_perm n l k).mem_iff.1 ho)
  unfold scoN at hm
  obtain ⟨j, _, rfl⟩ := List.mem_map.1 hm
  rw [Bool.eq_iff_iff, decide_eq_true_iff]
  exact betP_iff
 rw [hi, e]
 unfold insT
 rw [List.map_append, List.map_cons, List.map_take, List.map_drop]
 rfl
theorem tableOf_s (n : Nat) (l : List Gam) (hn : n ≤ 64) (h3 : l.length ≤ 3000) : Spec Try.prog 9 [I .i64 n, .c (.sl 3 (l.map gamP))] [] (.c (.sl 1 ((tableV n l).map i64P))) [] := by
 refine spec_am Try.func9 rfl rfl mix 34 rfl [.tmp 4] Try.results9 (Nat.le_of_ble_eq_true rfl) ?_
 (try (refine xst ?_; try exact xtI))
 refine loopI (fun k : Nat => ⟨[(11, I .i64 k), (10, I .i64 n), (5, .own 1), (3, .ptr 0 0 0)], [(0, .blk 22 [.c (.sl 3 (l.map gamP))]), (1, .row 3 1 ((tabI n l k).map i64P))], 2⟩) (fun k : Nat => k ≤ n) (fun k : Nat => n - k) (0) (Nat.zero_le _) ((To.nil 5 3 1 rfl).trans (To.mk [0, 1] rfl rfl (by decide) ?_ ?_)) ?_
 ·simp (etaStruct := .none) only [push_cast, DrawG, seval, tabI_0, List.map_nil]
 ·simp (etaStruct := .none) only [push_cast, DrawG, seval]
 rintro k hk
 (try (refine xst ?_; try exact xtI))
 refine cond_i (fun h1 => ?_) (fun h1 => ?_)
 ·(try replace h1 := xhh h1)
  have hlt : k < n := by omega
  have hll := tabI_len n l k hk
  have hb := ptsV_b l k
  have hs := tab_step n l k hlt
  (try (refine xst ?_; try exact xtI))
  refine caP (pointsOf_s l k h3) ?_
  (try (refine xst ?_; try exact xtI))
  refine caM [1, 0, 2, 3] (tix_s l h3 (ptsV l k).1 (ptsV l k).2 (tabI n l k) (by omega)) ?_
  (try (refine xst ?_; try exact xtI))
  refine cond_i (fun h2 => ?_) (fun h2 => ?_)
  ·(try replace h2 := xhh h2)
   have hi := ix_neg h2
   rw [hi] at hs
   (try (refine xst ?_; try exact xtI))
   refine caM [1, 4] (ins_s (tabI n l k) (tabI n l k).length (Nat.le_refl _) (by omega) k) ?_
   (try (refine xst ?_; try exact xtI))
   refine ⟨k + 1, by omega, by omega, To.mk [0, 5] rfl rfl (by decide) ?_ ?_⟩
   ·(iterate 2 ((try simp (etaStruct := .none) only [push_cast, DrawG, seval, hs]); (try (refine xsu ?_; try exact xtI))))
   ·(try (refine xst ?_; try exact xtI))
  ·(try replace h2 := xhh h2)
   have hi := ix_pos h2
   rw [hi.1]
   (try (refine xst ?_; try exact xtI))
   refine caM [1, 4] (ins_s (tabI n l k) ((tabI n l k).findIdx (betP l (ptsV l k).1 (ptsV l k).2)) (by omega) (by omega) k) ?_
   (try (refine xst ?_; try exact xtI))
   refine ⟨k + 1, by omega, by omega, To.mk [0, 5] rfl rfl (by decide) ?_ ?_⟩
   ·(iterate 2 ((try simp (etaStruct := .none) only [push_cast, DrawG, seval, hs]); (try (refine xsu ?_; try exact xtI))))
   ·(try (refine xst ?_; try exact xtI))
 ·(try replace h1 := xhh h1)
  obtain rfl : k = n := by omega
  (iterate 2 ((try simp (etaStruct := .none) only [push_cast, DrawG, seval, tabI_n]); (try (refine xsu ?_; try exact xtI))))
  exact xrz rfl
end Go.Proofs.Ytddbnknkjaffbaa
namespace Go.Proofs.Ytddbnknkjaffbaa
set_option linter.all false
open Go.RowKit
set_option maxRecDepth 100000
theorem int_eq (l m : List Int) (hl : l.length ≤ 9223372036854775807) (hm : m.length ≤ 9223372036854775807) : Spec Try.prog 8 [.c (.sl 1 (l.map i64P)), .c (.sl 1 (m.map i64P))] [] (B (decide (l = m))) [] := by
 refine spec_am Try.func8 rfl rfl mix 26 rfl [.tmp 4] Try.results8 (Nat.le_of_ble_eq_true rfl) ?_
 (try (refine xst ?_; try exact xtI))
 refine cond_i (fun h1 => ?_) (fun h1 => ?_)
 ·(try replace h1 := xhh h1)
  have e : l ≠ m := by intro e; subst e; simp at h1
  (try (refine xst ?_; try exact xtI))
  exact ret0 rfl trivial (Wk.of (by rw [decide_eq_false e]; rfl))
 ·(try replace h1 := xhh h1)
  (try (refine xst ?_; try exact xtI))
  refine loopI (fun k : Nat => ⟨[(13, I .i64 k), (12, I .i64 l.length), (1, .c (.sl 1 (m.map i64P))), (0, .c (.sl 1 (l.map i64P)))], [], 0⟩) (fun k : Nat => k ≤ l.length ∧ ∀ j, j < k → l.getD j default = m.getD j default) (fun k : Nat => l.length - k) (0) (⟨Nat.zero_le _, fun j h => by omega⟩) (To.mk [] rfl rfl List.nodup_nil trivial ?_) ?_
  ·simp (etaStruct := .none) only [push_cast, DrawG, seval]
  rintro k ⟨hk, hn⟩
  (try (refine xst ?_; try exact xtI))
  refine cond_i (fun h2 => ?_) (fun h2 => ?_)
  ·(try replace h2 := xhh h2)
   have hlt : k < l.length := by omega
   have hlt2 : k < m.length := by omega
   (iterate 2 ((try simp (etaStruct := .none) only [push_cast, DrawG, seval, getD_in _ _ _ hlt, getD_in _ _ _ hlt2, i64P, decide_not]); (try (refine xsu ?_; try exact xtI))))
   (try (refine ⟨by kernel_rfl, ?_⟩))
   (iterate 2 ((try simp (etaStruct := .none) only [push_cast, DrawG, seval, getD_in _ _ _ hlt, getD_in _ _ _ hlt2, i64P, decide_not]); (try (refine xsu ?_; try exact xtI))))
   refine cond_i (fun h3 => ?_) (fun h3 => ?_)
   ·(try replace h3 := xhh h3)
    have e : l ≠ m := by intro e; subst e; simp at h3
    (iterate 2 ((try simp (etaStruct := .none) only [push_cast, DrawG, seval, getD_in _ _ _ hlt, getD_in _ _ _ hlt2, i64P, decide_not]); (try (refine xsu ?_; try exact xtI))))
    exact ret0 rfl trivial (Wk.of (by rw [decide_eq_false e]; rfl))
   ·(try replace h3 := xhh h3)
    (iterate 2 ((try simp (etaStruct := .none) only [push_cast, DrawG, seval, getD_in _ _ _ hlt, getD_in _ _ _ hlt2, i64P, decide_not]); (try (refine xsu ?_; try exact xtI))))
    refine ⟨k + 1, ⟨by omega, fun j hj => by rcases Nat.lt_or_ge j k with h | h; exact hn j h; rw [show j = k by omega]; simpa using h3⟩, by omega, To.mk [] rfl rfl List.nodup_nil trivial ?_⟩
    ·(iterate 2 ((try simp (etaStruct := .none) only [push_cast, DrawG, seval, getD_in _ _ _ hlt, getD_in _ _ _ hlt2, i64P, decide_not]); (try (refine xsu ?_; try exact xtI))))
  ·(try replace h2 := xhh h2)
   have e : l = m := by
    refine List.ext_getElem (by omega) fun i i1 i2 => ?_
    have := hn i (by omega)
    rwa [getD_at _ _ i1, getD_at _ _ i2] at this
   (try (refine xst ?_; try exact xtI))
   exact ret0 rfl trivial (Wk.of (by rw [decide_eq_true e]; rfl))
end Go.Proofs.Ytddbnknkjaffbaa
namespace Go.Proofs.Ytddbnknkjaffbaa
set_option linter.all false
open Go.RowKit
set_option maxRecDepth 100000
set_option maxHeartbeats 1000000
theorem gamsE_ok {n : Int} {l : List Gam} (h : gamsE n l = 0) : (1 ≤ n ∧ n ≤ 64) ∧ l.length ≤ 3000 ∧ ∀ j, j < l.length → gamR n (l.getD j default) = true := by
 unfold gamsE at h
 split at h
 ·omega
 ·split at h
  ·omega
  ·split at h
   ·rename_i ha
    refine ⟨by omega, by omega, fun j hj => ?_⟩
    rw [getD_at _ _ hj]
    exact List.all_eq_true.1 ha _ (List.getElem_mem hj)
   ·omega
theorem matchT_bad (n : Int) (l : List Gam) (hl : l.length ≤ 9223372036854775807) (hE : gamsE n l ≠ 0) : Spec Try.prog 3 [I .i64 n, .c (.sl 3 (l.map gamP))] [] (B true) [] := by
 refine spec_am Try.func3 rfl rfl mix 83 rfl [.tmp 4] Try.results3 (Nat.le_of_ble_eq_true rfl) ?_
 (try (refine xst ?_; try exact xtI))
 refine caP (mpoints_bad n l hl hE) ?_
 (try (refine xst ?_; try exact xtI))
 refine caP (mtable_bad n l hl hE) ?_
 (try (refine xst ?_; try exact xtI))
 refine caP (gamesRight_s n l hl) ?_
 (try (refine xst ?_; try exact xtI))
 refine cond_i (fun h1 => ?_) (fun h1 => ?_)
 ·(try replace h1 := xhh h1)
  (try (refine xst ?_; try exact xtI))
  exact xrz rfl
 ·(try replace h1 := xhh h1)
  exact absurd h1 hE
theorem matchT_ok (n : Nat) (l : List Gam) (hl : l.length ≤ 9223372036854775807) (hE : gamsE n l = 0) (hn : 1 ≤ n ∧ n ≤ 64) (hq3 : l.length ≤ 3000) (hg : ∀ j, j < l.length → gamR n (l.getD j default) = true) : Spec Try.prog 3 [I .i64 n, .c (.sl 3 (l.map gamP))] [] (B true) [] := by
 refine spec_am Try.func3 rfl rfl mix 83 rfl [.tmp 4] Try.results3 (Nat.le_of_ble_eq_true rfl) ?_
 have hpl : ((scoN n l).map Sco.points).length = n := by rw [List.length_map, scoN_len]
 have hsl := scoN_len n l
 (try (refine xst ?_; try exact xtI))
 refine caP (mpoints_ok n l hl hE hn hq3 hg) ?_
 (try (refine xst ?_; try exact xtI))
 refine caP (mtable_ok n l hl hE hn hq3 hg) ?_
 (try (refine xst ?_; try exact xtI))
 refine caP (gamesRight_s n l hl) ?_
 (try (refine xst ?_; try exact xtI))
 rw [hE]
 refine cond_i (fun h1 => ?_) (fun h1 => ?_)
 ·(try replace h1 := xhh h1)
  exact absurd h1 (by decide)
 ·(try replace h1 := xhh h1)
  (try (refine xst ?_; try exact xtI))
  refine cond_i (fun h2 => ?_) (fun h2 => ?_)
  ·(try replace h2 := xhh h2)
   omega
  ·(try replace h2 := xhh h2)
   (try (refine xst ?_; try exact xtI))
   refine loopI (fun k : Nat => ⟨[(62, I .i64 k), (61, I .i64 ((scoN n l).map Sco.points).length), (7, .c (.sl 1 ((tableV n l).map i64P))), (5, .c (.sl 1 (((scoN n l).map Sco.points).map i64P))), (1, .c (.sl 3 (l.map gamP))), (0, I .i64 n)], [], 0⟩) (fun k : Nat => k ≤ n) (fun k : Nat => n - k) (0) (Nat.zero_le _) (To.mk [] rfl rfl List.nodup_nil trivial ?_) ?_
   ·simp (etaStruct := .none) only [push_cast, DrawG, seval]
   rintro k hk
   (try (refine xst ?_; try exact xtI))
   refine cond_i (fun h3 => ?_) (fun h3 => ?_)
   ·(try replace h3 := xhh h3)
    have hlt : k < ((scoN n l).map Sco.points).length := by omega
    have hp : ((scoN n l).map Sco.points).getD k default = (ptsV l k).1 := by
     rw [getD_at _ _ hlt, List.getElem_map, ← getD_at (scoN n l) k (by rw [scoN_len]; omega), scoN_at n l k (by omega)]
     rfl
    (iterate 2 ((try simp (etaStruct := .none) only [push_cast, DrawG, seval, getD_in _ _ _ hlt, i64P, hp]); (try (refine xsu ?_; try exact xtI))))
    refine caP (pointsOf_s l k hq3) ?_
    (iterate 2 ((try simp (etaStruct := .none) only [push_cast, DrawG, seval, getD_in _ _ _ hlt, i64P, hp]); (try (refine xsu ?_; try exact xtI))))
    refine cond_i (fun h4 => ?_) (fun h4 => ?_)
    ·(try replace h4 := xhh h4)
     exact absurd h4 (by decide)
    ·(try replace h4 := xhh h4)
     (iterate 2 ((try simp (etaStruct := .none) only [push_cast, DrawG, seval, getD_in _ _ _ hlt, i64P, hp]); (try (refine xsu ?_; try exact xtI))))
     refine ⟨k + 1, by omega, by omega, To.mk [] rfl rfl List.nodup_nil trivial ?_⟩
     ·(iterate 2 ((try simp (etaStruct := .none) only [push_cast, DrawG, seval, getD_in _ _ _ hlt, i64P, hp]); (try (refine xsu ?_; try exact xtI))))
   ·(try replace h3 := xhh h3)
    (try (refine xst ?_; try exact xtI))
    refine caP (tableOf_s n l (by omega) hq3) ?_
    (try (refine xst ?_; try exact xtI))
    refine caP (int_eq (tableV n l) (tableV n l) (by rw [← tabI_n, tabI_len _ _ _ (Nat.le_refl _)]; omega) (by rw [← tabI_n, tabI_len _ _ _ (Nat.le_refl _)]; omega)) ?_
    (try (refine xst ?_; try exact xtI))
    exact xrz rfl
end Go.Proofs.Ytddbnknkjaffbaa
namespace Go.Proofs.Ytddbnknkjaffbaa
set_option linter.all false
open Go.RowKit Go.ChangeShapes Go.WideShapes Go.ChangeAt
def RelCs (w : World) (ps : List PV) (cs : List Value) : Prop := ∀ (j : Nat) p u, ps[j]? = some p → cs[j]? = some u → RelP w (· < w.heap.size) p u
theorem RelCs.nil {w : World} : RelCs w [] [] := fun j p u h => by simp at h
theorem RelCs.cons {w : World} {p : PV} {u : Value} {ps : List PV} {cs : List Value} (h : RelP w (· < w.heap.size) p u) (h' : RelCs w ps cs) : RelCs w (p :: ps) (u :: cs) := by
 intro j q v h1 h2
 cases j with
 | zero => simp at h1 h2; subst h1 h2; exact h
 | succ j => exact h' j q v (by simpa using h1) (by simpa using h2)
theorem RelCs.append {w : World} : ∀ {ps qs : List PV} {cs ds : List Value}, ps.length = cs.length → RelCs w ps cs → RelCs w qs ds → RelCs w (ps ++ qs) (cs ++ ds)
 | [], _, [], _, _, _, h => h
 | [], _, _ :: _, _, hl, _, _ => by simp at hl
 | _ :: _, _, [], _, hl, _, _ => by simp at hl
 | p :: ps, qs, c :: cs, ds, hl, h, h' => by
  refine RelCs.cons (h 0 p c rfl rfl) (RelCs.append (by simpa using hl) (fun j q v h1 h2 => h (j + 1) q v (by simpa using h1) (by simpa using h2)) h')
def OpA (P : Program) (T sz : Nat) (w : World) {α : Type} (pv : α → List PV) (ok : α → Prop) : Prop :=
 ∃ (β : Type) (enc : β → List Value) (okb : β → Prop) (f : β → α), Opens P T sz w enc okb ∧ ∀ y, okb y → ok (f y) ∧ (pv (f y)).length = sz ∧ (enc y).length = sz ∧ RelCs w (pv (f y)) (enc y)
section
variable {P : Program} {T : Nat} {w : World}
theorem OpA.i64 (h : P.underlying T = some (.int .i64)) : OpA P T 1 w i64P In64 :=
 ⟨_, _, _, id, Opens.i64 h, fun y hy => ⟨hy, rfl, rfl, .cons (relP_v rfl) .nil⟩⟩
theorem OpA.u64 (h : P.underlying T = some (.int .u64)) : OpA P T 1 w u64P (fun n => n < 18446744073709551616) :=
 ⟨_, _, _, id, Opens.u64 h, fun y hy => ⟨hy, rfl, rfl, .cons (relP_v rfl) .nil⟩⟩
def u32P (n : Nat) : List PV := [.v (.int .u32 n)]
theorem OpA.u32 (h : P.underlying T = some (.int .u32)) : OpA P T 1 w u32P (fun n => n < 4294967296) :=
 ⟨_, _, _, id, Opens.u32 h, fun y hy => ⟨hy, rfl, rfl, .cons (relP_v rfl) .nil⟩⟩
theorem OpA.bool (h : P.underlying T = some .bool) : OpA P T 1 w boolP (fun _ => True) :=
 ⟨_, _, _, id, Opens.bool h, fun y hy => ⟨hy, rfl, rfl, .cons (relP_v rfl) .nil⟩⟩
theorem OpA.str (h : P.underlying T = some .string) : OpA P T 1 w strP (fun s => s.size ≤ 140737488351232) :=
 ⟨_, _, _, id, Opens.str h, fun y hy => ⟨hy, rfl, rfl, .cons (relP_v rfl) .nil⟩⟩
theorem OpA.map {sz : Nat} {α β : Type} {pv : α → List PV} {ok : α → Prop} {pv' : β → List PV} {ok' : β → Prop} (h : OpA P T sz w pv ok) (f : α → β) (hf : ∀ x, pv' (f x) = pv x) (hok : ∀ x, ok x → ok' (f x)) : OpA P T sz w pv' ok' := by
 obtain ⟨γ, enc, okb, g, h1, h2⟩ := h
 exact ⟨γ, enc, okb, fun y => f (g y), h1, fun y hy => by obtain ⟨a, b, c, d⟩ := h2 y hy; exact ⟨hok _ a, by rw [hf]; exact b, c, by rw [hf]; exact d⟩⟩
theorem OpA.slice {E sz bts : Nat} {α : Type} {pv : α → List PV} {ok : α → Prop} (hT : P.underlying T = some (.slice E)) (hc : P.cellsOf E = sz) (hsz : 0 < sz) (hby : P.bytesOf E = bts) (hE : OpA P E sz w pv ok) :
 OpA P T 1 w (fun xs : List α => [.sl sz (xs.map pv)]) (fun xs => (∀ x ∈ xs, ok x) ∧ xs.length * bts ≤ 140737488351232 ∧ xs.length ≤ 9223372036854775807) := by
 obtain ⟨γ, enc, okb, g, h1, h2⟩ := hE
 refine ⟨_, _, _, fun s => s.xs.map g, Opens.slice hT hc hsz hby h1, fun s hs => ⟨⟨?_, ?_, ?_⟩, rfl, rfl, ?_⟩⟩
 ·intro x hx
  obtain ⟨y, hy, rfl⟩ := List.mem_map.1 hx
  exact (h2 y (hs.each y hy).1).1
 ·have := hs.reach
  have h3 : s.xs.length * bts ≤ s.c * bts := Nat.mul_le_mul_right _ hs.cap
  simp only [List.length_map]; omega
 ·have h3 := hs.cap; have h4 := hs.max; unfold maxLen at h4; simp only [List.length_map]; omega
 ·refine .cons ?_ .nil
  have := rel_sl (pv := fun y => pv (g y)) hs fun y hy ho => by
   obtain ⟨_, a, b, d⟩ := h2 y ho
   exact ⟨a, d⟩
  simpa [List.map_map, Function.comp_def] using this
def OpAF (P : Program) (w : World) (fs : List Field) (o sz : Nat) {α : Type} (pv : α → List PV) (ok : α → Prop) : Prop :=
 ∃ (β : Type) (enc : β → List Value) (okb : β → Prop) (f : β → α), OpensF P w fs o sz enc okb ∧ ∀ y, okb y → ok (f y) ∧ (pv (f y)).length = sz ∧ (enc y).length = sz ∧ RelCs w (pv (f y)) (enc y)
theorem OpAF.nil {o : Nat} : OpAF P w [] o 0 (fun _ : Unit => []) (fun _ => True) :=
 ⟨_, _, _, id, OpensF.nil, fun y hy => ⟨trivial, rfl, rfl, .nil⟩⟩
theorem OpAF.cons {f : Field} {fs : List Field} {o n sz : Nat} {α β : Type} {pv : α → List PV} {ok : α → Prop} {pv' : β → List PV} {ok' : β → Prop}
 (ho : f.offset = o) (hn : P.cellsOf f.type = n) (h : OpA P f.type n w pv ok) (h' : OpAF P w fs (o + n) sz pv' ok') :
 OpAF P w (f :: fs) o (n + sz) (fun x : α × β => pv x.1 ++ pv' x.2) (fun x => ok x.1 ∧ ok' x.2) := by
 obtain ⟨γ, enc, okb, g, h1, h2⟩ := h
 obtain ⟨γ', enc', okb', g', h1', h2'⟩ := h'
 refine ⟨_, _, _, fun y => (g y.1, g' y.2), OpensF.cons ho hn h1 h1', fun y hy => ?_⟩
 obtain ⟨a, b, c, d⟩ := h2 y.1 hy.1
 obtain ⟨a', b', c', d'⟩ := h2' y.2 hy.2
 exact ⟨⟨a, a'⟩, by simp [b, b'], by simp [c, c'], .append (by rw [b, c]) d d'⟩
theorem OpA.struct {sz : Nat} {fs : Array Field} {α : Type} {pv : α → List PV} {ok : α → Prop} (hT : P.underlying T = some (.struct fs)) (hc : P.cellsOf T = sz) (h : OpAF P w fs.toList 0 sz pv ok) : OpA P T sz w pv ok := by
 obtain ⟨γ, enc, okb, g, h1, h2⟩ := h
 exact ⟨γ, enc, okb, g, Opens.struct hT hc h1, h2⟩
theorem OpA.arg {sz : Nat} {α : Type} {pv : α → List PV} {ok : α → Prop} (h : OpA P T sz w pv ok) {H : Type} {eH : TypeId × Value → H} {v : Value} {d : DataW H} {p : List MemPlace}
 (hT : DataW.Trod eH P w 0 (fun _ => true) true T v d p) {ts : List TypeId} {ds : List (DataW H)} (hz : (DataW.weightsEach P ts ds).all (· ≤ reachBytes) = true) (j : Nat) (h1 : ts[j]? = some T) (h2 : ds[j]? = some d) : ∃ x : α, ok x ∧ (pv x).length = v.cells.toList.length ∧ RelCs w (pv x) v.cells.toList := by
 obtain ⟨γ, enc, okb, g, k1, k2⟩ := h
 obtain ⟨y, hy, ho⟩ := Opens.arg k1 hT hz j h1 h2
 obtain ⟨a, b, c, e⟩ := k2 y ho
 exact ⟨g y, a, by rw [hy, b, c], by rw [hy]; exact e⟩
theorem rel_one {p : PV} {v : Value} (hv : v.cells = #[v]) (hr : RelCs w [p] v.cells.toList) : RelA (· < 0) w (· < w.heap.size) (fun _ => none) (.c p) v :=
 relA_c (hr 0 p v rfl (by rw [hv]; rfl))
theorem one_slice {base e : Nat} {v : Value} (ht : P.underlying T = some (.slice e)) (h : Value.okWide P w .any base T v) : v.cells = #[v] := by obtain ⟨a, l, c, rfl⟩ := okWide_slice ht h; rfl
theorem one_int {base : Nat} {k : IntKind} {v : Value} (ht : P.underlying T = some (.int k)) (h : Value.okWide P w .any base T v) : v.cells = #[v] := by obtain ⟨n, rfl⟩ := okWide_int ht h; rfl
end
end Go.Proofs.Ytddbnknkjaffbaa
