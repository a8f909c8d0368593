/- The abstract machine, part F: operations that make or write memory. -/
import Derived.Test.YtibknlfadoeglaaAmE
import Derived.Laws.OwnMore
import Derived.Deep.Upon
namespace Go.Proofs.Ytibknlfadoeglaa
set_option linter.all false
open Go.RowKit
/-- What an operation does: its value, the pieces of memory as they are behind it, how many are new. -/
structure Eff where
  val : AV
  ups : List (Nat × Chunk)
  fresh : Nat
def toPV : AV → Option PV
  | .c p => some p
  | _ => none
def toPVs : List AV → Option (List PV)
  | [] => some []
  | x :: r => match toPV x, toPVs r with
    | some p, some ps => some (p :: ps)
    | _, _ => none
def splice {α : Type} (l : List α) (o : Nat) (ps : List α) : List α := l.take o ++ (ps ++ l.drop (o + ps.length))
def fillA (place : Nat → Option (Nat × Nat)) (cs : List AV) : List (Nat × AV) → Option (List AV)
  | [] => some cs
  | (i, x) :: r => match place i, cellsOf x with
    | some (o, n), some ys => if Nat.beq ys.length n && Nat.ble (o + n) cs.length then fillA place (splice cs o ys) r else none
    | _, _ => none
def plFs (fs : List (Option (Nat × Nat × Bool))) (i : Nat) : Option (Nat × Nat) :=
  match fs[i]? with
  | some (some (o, n, _)) => some (o, n)
  | _ => none
def buildAV (P : Program) (t : TypeId) (parts : List (Nat × AV)) : Option (Prop × AV) :=
  match ty P t with
  | some ⟨.st fs, _, _, _, z⟩ => if fs.all (·.isSome) && z.all (·.oneCell') && !z.isEmpty then match fillA (plFs fs) (z.map fun v => .c (.v v)) parts with
    | some cs => some (True, .agg cs)
    | none => none
    else none
  | some ⟨.arr _ e, _, _, _, z⟩ => match ty P e with
    | some d => if z.all (·.oneCell') && !z.isEmpty then match fillA (fun i => some (i * d.size, d.size)) (z.map fun v => .c (.v v)) parts with
      | some cs => some (True, .agg cs)
      | none => none
      else none
    | none => none
  | _ => none
def chunks {α : Type} (sz : Nat) : Nat → List α → List (List α)
  | 0, _ => []
  | n + 1, l => l.take sz :: chunks sz n (l.drop sz)
def sameO : Operand → Operand → Bool
  | .tmp a, .tmp b => Nat.beq a b
  | .const (.int _ a), .const (.int _ b) => decide (a = b)
  | _, _ => false
def makeAV (P : Program) (m : Nat) (t : TypeId) (same : Bool) (l c : AV) : Option (Prop × Eff) :=
  match ty P t, l, c with
  | some ⟨.sl e, _, _, _, _⟩, .c (.v (.int _ a)), .c (.v (.int _ b)) => match ty P e with
    | some d => if Nat.beq d.zero.length d.size && Nat.ble 1 d.size && d.zero.all (·.oneCell') then
        (if same then some (a = b ∧ 0 ≤ b ∧ (d.bytes : Int) * b ≤ 140737488355328 ∧ b ≤ 140737488355328, ⟨.own m, [(m, .row e d.size (List.replicate b.toNat (d.zero.map .v)))], 1⟩)
         else some (a = 0 ∧ 0 ≤ b ∧ (d.bytes : Int) * b ≤ 140737488355328 ∧ b ≤ 140737488355328, ⟨.own m, [(m, .row e d.size [])], 1⟩))
      else none
    | none => none
  | _, _, _ => none
def sliceLitAV (P : Program) (m : Nat) (t : TypeId) (len : Nat) (parts : List (Nat × AV)) : Option (Prop × Eff) :=
  match ty P t with
  | some ⟨.sl e, _, _, _, _⟩ => match ty P e with
    | some d => if Nat.beq d.zero.length d.size && Nat.ble 1 d.size && d.zero.all (·.oneCell') && Nat.ble (len * d.size) 16777216 then
        match fillA (fun i => some (i * d.size, d.size)) (List.replicate (len * d.size) (.c .undef)) parts with
        | some cs => match toPVs cs with
          | some ps => some (True, ⟨.own m, [(m, .row e d.size (chunks d.size len ps))], 1⟩)
          | none => none
        | none => none
      else none
    | none => none
  | _ => none
def storeAV (P : Program) (h : Nat → Chunk) (t : TypeId) (p x : AV) : Option (Prop × Eff) :=
  match ty P t, cellsOf x, p with
  | some d, some cs, .ptr id i o => if Nat.beq cs.length d.size then match h id with
    | .row e sz xs => match toPVs cs with
      | some ps => if Nat.beq o 0 && Nat.beq d.size sz then some (i < xs.length, ⟨.undef, [(id, .row e sz (xs.set i ps))], 0⟩)
        else if Nat.ble (o + d.size) sz then some (i < xs.length, ⟨.undef, [(id, .row e sz (xs.set i (splice (xs.getD i []) o ps)))], 0⟩) else none
      | none => none
    | .blk t' bs => if Nat.ble (o + d.size) bs.length then some (i = 0, ⟨.undef, [(id, .blk t' (splice bs o cs))], 0⟩) else none
    | _ => none
    else none
  | _, _, _ => none
/-- The row that is appended to: the piece that is used up, its elements. -/
def rowOf (h : Nat → Chunk) (sz : Nat) (e : TypeId) : AV → Option (List (Nat × Chunk) × List (List PV))
  | .own id => match h id with
    | .row e' sz' xs => if Nat.beq e e' && Nat.beq sz sz' then some ([(id, .dead)], xs) else none
    | _ => none
  | .view id 0 l => match h id with
    | .row e' sz' xs => if Nat.beq e e' && Nat.beq sz sz' then some ([(id, .dead)], xs.take l) else none
    | _ => none
  | .c (.v (.slice none 0 0)) => some ([], [])
  | _ => none
def appAV (P : Program) (h : Nat → Chunk) (m : Nat) (t : TypeId) (s x : AV) : Option (Prop × Eff) :=
  match ty P t with
  | some ⟨.sl e, _, _, _, _⟩ => match ty P e with
    | some d => if Nat.beq d.zero.length d.size && Nat.ble 1 d.size && Nat.ble 1 d.bytes then match rowOf h d.size e s, slOf h x with
      | some (ks, xs), some (sz, ys) => some ((sz = d.size ∨ ys = []) ∧ (xs.length + ys.length) * d.bytes ≤ 140737488355328, ⟨.own m, ks ++ [(m, .row e d.size (xs ++ ys))], 1⟩)
      | _, _ => none
      else none
    | none => none
  | _ => none
def ex2 (P : Program) (g : Operand → AV) (h : Nat → Chunk) (m : Nat) : Op → Option (Prop × Eff)
  | .alloc e => match ty P e with
    | some d => if Nat.beq d.zero.length d.size && Nat.ble 1 d.size && d.zero.all (·.oneCell') then some (True, ⟨.ptr m 0 0, [(m, .blk e (d.zero.map fun v => .c (.v v)))], 1⟩) else none
    | none => none
  | .box e x => match cellsOf (g x) with
    | some cs => some (True, ⟨.ptr m 0 0, [(m, .blk e cs)], 1⟩)
    | none => none
  | .build t parts => match buildAV P t (parts.toList.map fun p => (p.1, g p.2)) with
    | some (φ, x) => some (φ, ⟨x, [], 0⟩)
    | none => none
  | .buildSlice t len parts => sliceLitAV P m t len (parts.toList.map fun p => (p.1, g p.2))
  | .makeSlice t l c => makeAV P m t (sameO l c) (g l) (g c)
  | .store t a x => storeAV P h t (g a) (g x)
  | .call ⟨.builtin .append, args, ts⟩ => match args.toList, ts.toList with
    | [s, x], [t, t'] => if Nat.beq t t' then appAV P h m t (g s) (g x) else none
    | _, _ => none
  | op => match ex1 P g h op with
    | some (φ, x) => some (φ, ⟨x, [], 0⟩)
    | none => none

/-- The general step: the pieces in T are changed. -/
theorem MemOk.step {W : World} {N U F U' F' : Nat → Prop} {β β' : Nat → Option Bind} {h h' : Nat → Chunk} {w w' : World} (M : MemOk W N U F β h w) (T : Nat → Prop)
    (hβ : ∀ i, ¬ T i → β' i = β i) (hh : ∀ i, ¬ T i → h' i = h i) (hos : w'.os = w.os) (htp : w'.tape = w.tape) (hout : w'.output = w.output) (hsz : w.heap.size ≤ w'.heap.size)
    (hblk : ∀ b, b < w.heap.size → (∀ i bd, T i → β i = some bd → bd.b ≠ some b) → w'.heap[b]? = w.heap[b]?)
    (hU : ∀ i, U i → U' i) (hF : ∀ b, F b → F' b) (hF' : ∀ b, F' b → b < w'.heap.size ∧ (F b ∨ w.heap.size ≤ b ∨ ∃ j bd, T j ∧ β j = some bd ∧ bd.b = some b))
    (hold : ∀ i bd, T i → U i → β' i = some bd → β i = some bd)
    (hnew : ∀ i bd, T i → β' i = some bd → U' i ∧ ∀ b, bd.b = some b → b < w'.heap.size ∧ ¬ F' b ∧ (w.heap.size ≤ b ∨ ∃ j bd0, T j ∧ β j = some bd0 ∧ bd0.b = some b))
    (hdis : ∀ i j bi bj b, T i → T j → β' i = some bi → β' j = some bj → bi.b = some b → bj.b = some b → i = j)
    (hch : Ext U F β w U' F' β' w' → ∀ i, T i → h' i ≠ .dead → ∃ bd, β' i = some bd ∧ ChOk U' w' F' β' bd (h' i)) :
    MemOk W N U' F' β' h' w' ∧ Ext U F β w U' F' β' w' := by
  have E : Ext U F β w U' F' β' w' := by
    refine ⟨hU, fun b hb => ⟨hF b hb, hblk b (M.fin b hb) fun i bd _ hi hbb => (M.off i bd b hi hbb).1 hb⟩, fun i bd hi hb => ?_⟩
    rcases Classical.em (T i) with ht | ht
    · exact hold i bd ht hi hb
    · rw [← hβ i ht]; exact hb
  refine ⟨⟨Nat.le_trans M.size hsz, hos.trans M.os, htp.trans M.tape, hout.trans M.output, ?_, fun b hb => (hF' b hb).1, ?_, ?_, ?_, ?_⟩, E⟩
  · intro b hb hN
    rw [hblk b (Nat.lt_of_lt_of_le hb M.size) fun i bd ht hi hbb => ?_]
    · exact M.frame b hb hN
    · rcases (M.off i bd b hi hbb).2.2 with h1 | h1
      · omega
      · exact hN h1
  · intro i bd hb
    rcases Classical.em (T i) with ht | ht
    · exact (hnew i bd ht hb).1
    · rw [hβ i ht] at hb; exact hU i (M.used i bd hb)
  · intro i hd
    rcases Classical.em (T i) with ht | ht
    · exact hch E i ht hd
    · rw [hh i ht] at hd ⊢
      obtain ⟨bd, hb, hc⟩ := M.ch i hd
      refine ⟨bd, by rw [hβ i ht]; exact hb, hc.mono E fun g hg => hblk g (M.off i bd g hb hg).2.1 fun j bj hj hbj hbb => ?_⟩
      exact ht (M.dis i j bd bj g hb hbj hg hbb ▸ hj)
  · intro i j bi bj b hi hj hbi hbj
    have mix : ∀ i j bi bj, ¬ T i → T j → β' i = some bi → β' j = some bj → bi.b = some b → bj.b = some b → False := by
      intro i j bi bj ht hj hi hbj hbi hb2
      rw [hβ i ht] at hi
      rcases (hnew j bj hj hbj).2 b hb2 with ⟨_, _, h1 | ⟨k, bk, hk, hbk, hbb⟩⟩
      · have := (M.off i bi b hi hbi).2.1; omega
      · exact ht (M.dis i k bi bk b hi hbk hbi hbb ▸ hk)
    rcases Classical.em (T i) with ht | ht <;> rcases Classical.em (T j) with hs | hs
    · exact hdis i j bi bj b ht hs hi hj hbi hbj
    · exact (mix j i bj bi hs ht hj hi hbj hbi).elim
    · exact (mix i j bi bj ht hs hi hj hbi hbj).elim
    · rw [hβ i ht] at hi; rw [hβ j hs] at hj; exact M.dis i j bi bj b hi hj hbi hbj
  · intro i bd b hi hb
    rcases Classical.em (T i) with ht | ht
    · obtain ⟨h1, h2, h3⟩ := (hnew i bd ht hi).2 b hb
      refine ⟨h2, h1, ?_⟩
      rcases h3 with h3 | ⟨j, bj, hj, hbj, hbb⟩
      · exact .inl (Nat.le_trans M.size h3)
      · exact (M.off j bj b hbj hbb).2.2
    · rw [hβ i ht] at hi
      obtain ⟨h1, h2, h3⟩ := M.off i bd b hi hb
      refine ⟨fun hf => ?_, Nat.lt_of_lt_of_le h2 hsz, h3⟩
      rcases (hF' b hf).2 with h4 | h4 | ⟨j, bj, hj, hbj, hbb⟩
      · exact h1 h4
      · omega
      · exact ht (M.dis i j bd bj b hi hbj hb hbb ▸ hj)
def updB (β : Nat → Option Bind) (i : Nat) (x : Option Bind) (j : Nat) : Option Bind := if i = j then x else β j
/-- Behind the operation. -/
def StepTo (W : World) (N U F : Nat → Prop) (β : Nat → Option Bind) (h : Nat → Chunk) (w : World) (m : Nat) (e : Eff) (v : Value) (w' : World) : Prop :=
  ∃ F' β', MemOk W N (fun i => U i ∨ (m ≤ i ∧ i < m + e.fresh)) F' β' (upd h e.ups) w' ∧ Ext U F β w (fun i => U i ∨ (m ≤ i ∧ i < m + e.fresh)) F' β' w' ∧ RelA (fun i => U i ∨ (m ≤ i ∧ i < m + e.fresh)) w' F' β' e.val v ∧ ∀ b, F' b → F b ∨ W.heap.size ≤ b ∨ N b
section
variable {P : Program} {W : World} {N U F : Nat → Prop} {β : Nat → Option Bind} {h hT : Nat → Chunk} {w : World}
theorem step_pure (M : MemOk W N U F β h w) (m : Nat) {x : AV} {v : Value} (hx : RelA U w F β x v) : StepTo W N U F β h w m ⟨x, [], 0⟩ v w := by
  have e : (fun i => U i ∨ (m ≤ i ∧ i < m + 0)) = U := by
    funext i; apply propext; constructor
    · rintro (h | h)
      · exact h
      · omega
    · exact .inl
  refine ⟨F, β, ?_, ?_, ?_, fun b hb => .inl hb⟩
  · simp only [e]; exact M
  · simp only [e]; exact Ext.refl _ _ _ _
  · simp only [e]; exact hx
/-- A new block. -/
theorem step_new (M : MemOk W N U F β h w) {m : Nat} (hm : ¬ U m) (o : Obj) {x : AV} {v : Value} {c : Chunk} (bd : Bind) (hbd : bd.b = some w.heap.size)
    (hc : Ext U F β w (fun i => U i ∨ (m ≤ i ∧ i < m + 1)) F (updB β m (some bd)) (w.alloc o) → ChOk (fun i => U i ∨ (m ≤ i ∧ i < m + 1)) (w.alloc o) F (updB β m (some bd)) bd c)
    (hx : RelA (fun i => U i ∨ (m ≤ i ∧ i < m + 1)) (w.alloc o) F (updB β m (some bd)) x v) : StepTo W N U F β h w m ⟨x, [(m, c)], 1⟩ v (w.alloc o) := by
  have hb0 : β m = none := by
    cases hb : β m with
    | none => rfl
    | some b => exact (hm (M.used m b hb)).elim
  have hsz : (w.alloc o).heap.size = w.heap.size + 1 := by show (w.heap.push o).size = _; simp
  obtain ⟨h1, h2⟩ := M.step (w' := w.alloc o) (h' := upd h [(m, c)]) (β' := updB β m (some bd)) (F' := F) (U' := fun i => U i ∨ (m ≤ i ∧ i < m + 1)) (fun i => i = m)
    (fun i hi => by simp [updB, Ne.symm hi]) (fun i hi => by simp [upd, Ne.symm hi]) rfl rfl rfl (by omega) (fun b hb _ => heap_alloc_old w o hb)
    (fun i hi => .inl hi) (fun b hb => hb) (fun b hb => ⟨by have := M.fin b hb; omega, .inl hb⟩)
    (fun i bd' hi hu => by subst hi; exact (hm hu).elim)
    (fun i bd' hi hb => by
      subst hi
      simp only [updB, if_true, Option.some.injEq] at hb
      subst hb
      refine ⟨.inr ⟨Nat.le_refl _, by omega⟩, fun b hb => ?_⟩
      rw [hbd] at hb; cases hb
      exact ⟨by omega, fun hf => by have := M.fin _ hf; omega, .inl (Nat.le_refl _)⟩)
    (fun i j _ _ _ hi hj _ _ _ _ => by rw [hi, hj])
    (fun E i hi _ => by
      subst hi
      exact ⟨bd, by simp [updB], by simpa [upd] using hc E⟩)
  exact ⟨F, updB β m (some bd), h1, h2, hx, fun b hb => .inl hb⟩
/-- A piece written in place. -/
theorem step_set (M : MemOk W N U F β h w) (m : Nat) {id : Nat} {bd : Bind} (hid : β id = some bd) {g : Nat} (hg : bd.b = some g) {w' : World} (hos : w'.os = w.os) (htp : w'.tape = w.tape) (hout : w'.output = w.output) (hsz : w'.heap.size = w.heap.size)
    (hblk : ∀ b, b ≠ g → w'.heap[b]? = w.heap[b]?) {c : Chunk} (hc : Ext U F β w U F β w' → ChOk U w' F β bd c) (v : Value) : StepTo W N U F β h w m ⟨.undef, [(id, c)], 0⟩ v w' := by
  have e : (fun i => U i ∨ (m ≤ i ∧ i < m + 0)) = U := by
    funext i; apply propext; constructor
    · rintro (h | h)
      · exact h
      · omega
    · exact .inl
  obtain ⟨h1, h2⟩ := M.step (w' := w') (h' := upd h [(id, c)]) (β' := β) (F' := F) (U' := U) (fun i => i = id)
    (fun i hi => rfl) (fun i hi => by simp [upd, Ne.symm hi]) hos htp hout (by omega)
    (fun b hb hn => hblk b fun hbg => hn id bd rfl hid (by rw [hbg]; exact hg))
    (fun i hi => hi) (fun b hb => hb) (fun b hb => ⟨by have := M.fin b hb; omega, .inl hb⟩)
    (fun i bd' hi hu hb => hb)
    (fun i bd' hi hb => by
      subst hi
      refine ⟨M.used _ _ hb, fun b hbb => ?_⟩
      have := M.off _ _ _ hb hbb
      exact ⟨by omega, this.1, .inr ⟨i, bd', rfl, hb, hbb⟩⟩)
    (fun i j _ _ _ hi hj _ _ _ _ => by rw [hi, hj])
    (fun E i hi _ => by
      subst hi
      exact ⟨bd, hid, by simpa [upd] using hc E⟩)
  refine ⟨F, β, ?_, ?_, ?_, fun b hb => .inl hb⟩
  · simp only [e]; exact h1
  · simp only [e]; exact h2
  · simp only [RelA]
end
end Go.Proofs.Ytibknlfadoeglaa
