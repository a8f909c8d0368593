/- The abstract machine, part K: code, and that what it shows of a function is so. -/
import Derived.Test.YtibknlfadoeglaaAmJ
import Derived.Scope
namespace Go.Proofs.Ytibknlfadoeglaa
set_option linter.all false
open Go.RowKit
structure St where
  t : List (Nat × AV)
  h : List (Nat × Chunk)
  n : Nat
def putO : Option Tmp → AV → List (Nat × AV) → List (Nat × AV)
  | none, _, t => t
  | some d, x, t => (d, x) :: t
def St.app (s : St) (d : Option Tmp) (e : Eff) : St := ⟨putO d e.val s.t, e.ups ++ s.h, s.n + e.fresh⟩
def strip : AV → AV
  | .opt _ x => x
  | x => x
def stripsT : List AV → Prop
  | [] => True
  | .opt u _ :: r => u = true ∧ stripsT r
  | _ :: r => stripsT r
/-- Is a guarded operation carried out? -/
def gcond (x : AV) (b : Bool) : Option Bool :=
  match x with
  | .c (.v (.bool t)) => some (if b then t else !t)
  | .opt u (.c (.v (.bool t))) => some (u && (if b then t else !t))
  | _ => none
def CallG (P : Program) (f : FuncId) (args : List AV) (h : Nat → Chunk) (m : Nat) (K : Eff → Prop) : Prop := ∃ e, CallOk P f args h m e ∧ K e
/-- A guarded call. -/
def GCall (P : Program) (c : Bool) (f : FuncId) (args : List AV) (φ : Prop) (h : Nat → Chunk) (m : Nat) (K : Eff → Prop) : Prop :=
  (∃ r, (c = true → φ ∧ CallOk P f args h m ⟨r, [], 0⟩) ∧ K ⟨.opt c r, [], 0⟩) ∨ ((c = true → φ ∧ ∃ e, CallOk P f args h m e ∧ K e) ∧ (c = false → K ⟨.undef, [], 0⟩))
def opX (P : Program) (g : Operand → AV) (h : Nat → Chunk) (m : Nat) (K : Eff → Prop) (op : Op) : Prop :=
  match op with
  | .call ⟨.value f, args, _⟩ => match g f with
    | .clo (.func fid) a b => CallG P fid (a ++ args.toList.map g ++ b) h m K
    | _ => False
  | op => match ex3 P g h m op with
    | some (φ, e) => φ ∧ K e
    | none => False
def opG (P : Program) (c : Bool) (g : Operand → AV) (h : Nat → Chunk) (m : Nat) (K : Eff → Prop) (op : Op) : Prop :=
  match op with
  | .call ⟨.value f, args, ts⟩ => match strip (g f) with
    | .clo (.func fid) a b => GCall P c fid (a ++ args.toList.map (fun x => strip (g x)) ++ b) (stripsT ((Op.operands (.call ⟨.value f, args, ts⟩)).toList.map g)) h m K
    | _ => c = false ∧ K ⟨.undef, [], 0⟩
  | .pick cn x y => match strip (g cn) with
    | .c (.v (.bool t)) => match pickAV t (g x) (g y) with
      | some (φ, r) => (c = true → stripsT [g cn] ∧ φ) ∧ K ⟨.opt c r, [], 0⟩
      | none => c = false ∧ K ⟨.undef, [], 0⟩
    | _ => c = false ∧ K ⟨.undef, [], 0⟩
  | op => match ex3 P (fun x => strip (g x)) h m op with
    | some (φ, ⟨x, [], 0⟩) => (c = true → stripsT (op.operands.toList.map g) ∧ φ) ∧ K ⟨.opt c x, [], 0⟩
    | some (φ, e) => (c = true → stripsT (op.operands.toList.map g) ∧ φ ∧ K e) ∧ (c = false → K ⟨.undef, [], 0⟩)
    | none => c = false ∧ K ⟨.undef, [], 0⟩
def dstOk (nt : Nat) : Option Tmp → Prop
  | none => True
  | some d => d < nt
def dstV (f : Nat → AV) : Option Tmp → AV
  | none => .undef
  | some d => f d
def opWF (P : Program) (ops : Array Oper) (o : Oper) (f : Nat → AV) (h : Nat → Chunk) (m : Nat) (K : Eff → Prop) : Prop :=
  match o.guard with
  | none => opX P (getO f) h m K o.op
  | some (j, b) => match gcond (dstV f ((ops[j]?).bind (·.dst))) b with
    | none => False
    | some c => opG P c (getO f) h m K o.op
/-- A slice held against nil. -/
def nilCmp (P : Program) (g : Operand → AV) (h : Nat → Chunk) : Op → Option (Bool × List (List PV))
  | .binOp .eql t x (.const (.slice none 0 0)) _ => match ty P t, slOf h (g x) with
    | some ⟨.sl _, _, _, _, _⟩, some (_, xs) => some (false, xs)
    | _, _ => none
  | .binOp .neq t x (.const (.slice none 0 0)) _ => match ty P t, slOf h (g x) with
    | some ⟨.sl _, _, _, _, _⟩, some (_, xs) => some (true, xs)
    | _, _ => none
  | _ => none
def xorB (a b : Bool) : Bool := match a with | true => !b | false => b
/-- What follows an operation. -/
def opK (t : List (Nat × AV)) (h : List (Nat × Chunk)) (n : Nat) (d : Option Tmp) (K : St → Prop) : Eff → Prop
  | ⟨v, ups, fr⟩ => K ⟨putO d v t, ups ++ h, n + fr⟩
theorem opK_eq (s : St) (d : Option Tmp) (K : St → Prop) (e : Eff) : opK s.t s.h s.n d K e = K (s.app d e) := by cases e; rfl
def opW (P : Program) (nt : Nat) (ops : Array Oper) (o : Oper) (s : St) (K : St → Prop) : Prop :=
  dstOk nt o.dst ∧ match nilCmp P (getO (look s.t)) (lookC s.h) o.op with
  | some (neg, xs) => o.guard = none ∧ ∀ b : Bool, (b = true → xs = []) → K (s.app o.dst ⟨B (xorB neg b), [], 0⟩)
  | none => opWF P ops o (look s.t) (lookC s.h) s.n (opK s.t s.h s.n o.dst K)
def awpL (P : Program) (nt : Nat) (ops : Array Oper) : List Oper → (St → Prop) → St → Prop
  | [], K, ⟨t, h, n⟩ => K ⟨t, h, n⟩
  | o :: r, K, ⟨t, h, n⟩ => opW P nt ops o ⟨t, h, n⟩ (awpL P nt ops r K)
def seqK (k : St → Prop) (Q : Exit → St → Prop) : Exit → St → Prop
  | .normal, s => k s
  | e, s => Q e s
def blkK (id : Nat) (Q : Exit → St → Prop) : Exit → St → Prop
  | .exit i, s => if i = id then Q .normal s else Q (.exit i) s
  | e, s => Q e s
def scoK (Q : Exit → St → Prop) : Exit → St → Prop
  | .goto _, _ => False
  | e, s => Q e s
def CondG (x : AV) (X Y : St → Prop) (s : St) : Prop :=
  match x with
  | .c (.v (.bool b)) => (b = true → X s) ∧ (b = false → Y s)
  | _ => False
/-- The history that a walk keeps: the world, what may be written, what was frozen, the pieces handed in, at the function's start. -/
structure Hist where
  W : World
  N : Nat → Prop
  F : Nat → Prop
  β : Nat → Option Bind
  k : Nat
  nt : Nat
structure Conc (H : Hist) (s : St) (F : Nat → Prop) (β : Nat → Option Bind) (a : Act) (w : World) : Prop where
  t : ∀ t, RelA (· < s.n) w F β (look s.t t) (a.tmps.getD t undef)
  m : MemOk H.W H.N (· < s.n) F β (lookC s.h) w
  nt : a.tmps.size = H.nt
  d : a.defers = []
  f : ∀ b, H.F b → F b
  g : ∀ b, F b → H.F b ∨ H.W.heap.size ≤ b ∨ H.N b
  e : ∀ i bd, i < H.k → β i = some bd → H.β i = some bd
  k : H.k ≤ s.n
/-- From one state to one that tells less. -/
def ToK (k : Nat) (s s' : St) : Prop := ∀ (H : Hist) (F : Nat → Prop) (β : Nat → Option Bind) (a : Act) (w : World), H.k = k → Conc H s F β a w → ∃ F' β', Conc H s' F' β' a w
/-- A loop: what holds at its head, and what goes down. -/
def LoopG (k : Nat) (A : (Exit → St → Prop) → St → Prop) (Q : Exit → St → Prop) (s : St) : Prop :=
  ∃ (α : Type) (S : α → St) (Pr : α → Prop) (μ : α → Nat), (∃ x, Pr x ∧ ToK k s (S x)) ∧ ∀ x, Pr x → A (fun e s' => match e with
    | .normal => ∃ y, Pr y ∧ μ y < μ x ∧ ToK k s' (S y)
    | e => Q e s') (S x)
def joinK {α : Type} (k : Nat) (S : α → St) (Pr : α → Prop) (Q : Exit → St → Prop) : Exit → St → Prop := fun e s => match e with
  | .normal => ∃ a, Pr a ∧ ToK k s (S a)
  | e => Q e s
/-- Two ways, each with what follows; or both come to one form, and what follows is shown once. -/
def CondJ (k : Nat) (x : AV) (X Y : (Exit → St → Prop) → St → Prop) (Q : Exit → St → Prop) (s : St) : Prop :=
  CondG x (X Q) (Y Q) s ∨ ∃ (α : Type) (S : α → St) (Pr : α → Prop), CondG x (X (joinK k S Pr Q)) (Y (joinK k S Pr Q)) s ∧ ∀ a, Pr a → Q .normal (S a)
mutual
/-- The pieces that a value names. -/
def idsA : AV → List Nat
  | .undef => []
  | .c _ => []
  | .agg xs => idsL xs
  | .tup xs => idsL xs
  | .own id => [id]
  | .view id _ _ => [id]
  | .ptr id _ _ => [id]
  | .fel _ _ _ _ => []
  | .clo _ a b => idsL a ++ idsL b
  | .ifc _ x => idsA x
  | .map id => [id]
  | .opt _ x => idsA x
def idsL : List AV → List Nat
  | [] => []
  | x :: r => idsA x ++ idsL r
end
def cellIds (L : List (Nat × Chunk)) : List Nat → List Nat
  | [] => []
  | id :: r => (match lookC L id with | .blk _ cs => idsL cs | _ => []) ++ cellIds L r
def touch2 (L : List (Nat × Chunk)) (a : List Nat) : List Nat := a ++ cellIds L a
/-- The pieces that an operation may look at. -/
def touch (f : Nat → AV) (L : List (Nat × Chunk)) (o : Oper) : List Nat := touch2 L (touch2 L (idsL (o.op.operands.toList.map (getO f))))
def memN : List Nat → Nat → Bool
  | [], _ => false
  | a :: r, i => if a = i then true else memN r i
def onlyC (T : List Nat) (h : Nat → Chunk) (i : Nat) : Chunk := match memN T i with | true => h i | false => .dead
def drK (t : List (Nat × AV)) (h : List (Nat × Chunk)) (n : Nat) (d : Option Tmp) (T : List Nat) (acc : List (List Nat × List Nat)) (R : List (List Nat × List Nat) → St → Prop) : Eff → Prop
  | ⟨v, ups, fr⟩ => fr ≤ 4 ∧ R (acc ++ [(T, ups.map (·.1))]) ⟨putO d v t, ups ++ h, n⟩
/-- A region that draws its order, in the order of its text: what each operation looks at, and what it changes, is kept. -/
def drawL (P : Program) (nt : Nat) (ops : Array Oper) (n0 : Nat) : Nat → List Oper → List (List Nat × List Nat) → (List (List Nat × List Nat) → St → Prop) → St → Prop
  | _, [], acc, K, ⟨t, h, n⟩ => K acc ⟨t, h, n⟩
  | i, o :: r, acc, K, ⟨t, h, n⟩ => dstOk nt o.dst ∧ opWF P ops o (look t) (onlyC (touch (look t) h o) (lookC h)) (n0 + 4 * i) (drK t h n o.dst (touch (look t) h o) acc (fun acc' s' => drawL P nt ops n0 (i + 1) r acc' K s'))
/-- Who comes before an operation in every order, as bits. -/
def edgeMask (ms : List Nat) : List Edge → Nat
  | [] => 0
  | e :: r => if Region.binds .any e then (1 <<< e.on ||| ms.getD e.on 0) ||| edgeMask ms r else edgeMask ms r
def masks : List Oper → List Nat → List Nat
  | [], ms => ms
  | o :: r, ms => masks r (ms ++ [edgeMask ms o.after.toList])
def disj (a b : List Nat) : Bool := a.all fun x => !memN b x
def fp (acc : List (List Nat × List Nat)) (i : Nat) : List Nat × List Nat := acc.getD i ([], [])
def isLk (o : Oper) : Bool := o.guard.isNone && match o.op with | .lookup _ _ _ false => true | _ => false
def isEn (o : Oper) : Bool := o.guard.isNone && match o.op with | .mapEntry _ _ _ => true | _ => false
/-- A look into a map, and the opening of an entry: no matter which comes first. -/
def lkOk (ops : Array Oper) (acc : List (List Nat × List Nat)) (i j : Nat) : Bool := (match ops[i]?, ops[j]? with | some a, some b => isLk a && isEn b | _, _ => false) && (List.range j).all fun m => Nat.ble m i || disj (fp acc i).1 (fp acc m).2
def pairOk (ops : Array Oper) (ms : List Nat) (acc : List (List Nat × List Nat)) (i j : Nat) : Bool :=
  (ms.getD j 0).testBit i || ((match ops[i]?, ops[j]? with | some a, some b => Oper.apart ops a b | _, _ => false) && disj (fp acc i).2 ((fp acc j).1 ++ (fp acc j).2) && (disj (fp acc i).1 (fp acc j).2 || lkOk ops acc i j))
def drawOk (ops : Array Oper) (acc : List (List Nat × List Nat)) : Bool :=
  let ms := masks ops.toList []
  ((List.range ops.size).all fun k => match ops[k]? with | some o => o.after.toList.all fun e => !Region.binds .any e || Nat.blt e.on k | none => false) &&
  (List.range ops.size).all fun j => (List.range j).all fun i => pairOk ops ms acc i j
def DrawG (P : Program) (nt : Nat) (ops : Array Oper) (K : St → Prop) (s : St) : Prop :=
  drawL P nt ops s.n 0 ops.toList [] (fun acc s' => drawOk ops acc = true ∧ K ⟨s'.t, s'.h, s.n + 4 * ops.size⟩) s
/-- The machine, on code. -/
def awp (P : Program) (nt k : Nat) : Code → (Exit → St → Prop) → St → Prop
  | .skip, Q, ⟨t, h, n⟩ => Q .normal ⟨t, h, n⟩
  | .label _, Q, ⟨t, h, n⟩ => Q .normal ⟨t, h, n⟩
  | .region _ ops false, Q, ⟨t, h, n⟩ => awpL P nt ops ops.toList (Q .normal) ⟨t, h, n⟩
  | .region _ ops true, Q, ⟨t, h, n⟩ => DrawG P nt ops (Q .normal) ⟨t, h, n⟩
  | .seq x y, Q, ⟨t, h, n⟩ => awp P nt k x (seqK (awp P nt k y Q) Q) ⟨t, h, n⟩
  | .cond c x y, Q, ⟨t, h, n⟩ => CondJ k (getO (look t) c) (awp P nt k x) (awp P nt k y) Q ⟨t, h, n⟩
  | .block id c, Q, ⟨t, h, n⟩ => awp P nt k c (blkK id Q) ⟨t, h, n⟩
  | .loop c, Q, ⟨t, h, n⟩ => LoopG k (awp P nt k c) Q ⟨t, h, n⟩
  | .exit id, Q, ⟨t, h, n⟩ => Q (.exit id) ⟨t, h, n⟩
  | .scope c, Q, ⟨t, h, n⟩ => awp P nt k c (scoK Q) ⟨t, h, n⟩
  | .ret, Q, ⟨t, h, n⟩ => Q .ret ⟨t, h, n⟩
  | .goto _, _, _ => False
  | .rangeFunc _ _ _ _, _, _ => False
  | .refuse _, _, _ => False
theorem least {p : Nat → Prop} (h : ∃ n, p n) : ∃ n, p n ∧ ∀ m, p m → n ≤ m := by
  obtain ⟨n, hn⟩ := h
  induction n using Nat.strongRecOn with
  | _ n ih =>
    by_cases hk : ∃ m, m < n ∧ p m
    · obtain ⟨m, hm, hp⟩ := hk
      exact ih m hm hp
    · exact ⟨n, hn, fun m hm => Nat.le_of_not_lt fun h => hk ⟨m, h, hm⟩⟩
section
variable {P : Program} {H : Hist} {s : St} {F : Nat → Prop} {β : Nat → Option Bind} {a : Act} {w : World}
theorem upd_look (L : List (Nat × Chunk)) : ∀ ups : List (Nat × Chunk), upd (lookC L) ups = lookC (ups ++ L)
  | [] => rfl
  | (k, c) :: r => by
    funext i
    have := congrFun (upd_look L r) i
    simp only [upd, List.cons_append, lookC, this]
theorem Conc.step (C : Conc H s F β a w) {e : Eff} {v : Value} {w' : World} (S : StepTo H.W H.N (· < s.n) F β (lookC s.h) w s.n e v w') {d : Option Tmp} (hd : dstOk H.nt d) : ∃ F' β', Conc H (s.app d e) F' β' (a.put d v) w' := by
  obtain ⟨F', β', M, E, hr, hF⟩ := S
  have eU : (fun i => i < s.n ∨ (s.n ≤ i ∧ i < s.n + e.fresh)) = (· < (s.app d e).n) := by
    funext i; apply propext; simp only [St.app]; omega
  rw [eU] at M E hr
  rw [upd_look] at M
  refine ⟨F', β', ?_, M, ?_, ?_, fun b hb => (E.f b (C.f b hb)).1, fun b hb => ?_, fun i bd hi hb => C.e i bd hi (E.e i bd (Nat.lt_of_lt_of_le hi C.k) hb), Nat.le_trans C.k (Nat.le_add_right _ _)⟩
  · intro t
    cases d with
    | none => exact RelA.mono E _ _ (C.t t)
    | some d =>
      simp only [St.app, putO, look, Act.put]
      by_cases h1 : d = t
      · subst h1
        rw [if_pos rfl]
        have : d < a.tmps.size := by rw [C.nt]; exact hd
        rw [Array.getD_eq_getD_getElem?, Array.getElem?_setIfInBounds_self, if_pos this]
        exact hr
      · rw [if_neg h1, Array.getD_eq_getD_getElem?, Array.getElem?_setIfInBounds_ne h1, ← Array.getD_eq_getD_getElem?]
        exact RelA.mono E _ _ (C.t t)
  · cases d <;> simp [Act.put, C.nt]
  · cases d <;> simp [Act.put, C.d]
  · rcases hF b hb with h1 | h1
    · exact C.g b h1
    · exact .inr h1
theorem Conc.G (C : Conc H s F β a w) (x : Operand) : RelA (· < s.n) w F β (getO (look s.t) x) (a.eval x) := relO C.t x
theorem Calls.exec {P : Program} {f : FuncId} (hf : Enters P f) {ev : Operand → Value} {o : Oper} {x : Operand} {args : Array Operand} {ts : Array TypeId} (ho : o.op = .call ⟨.value x, args, ts⟩) {fs cs : Array Value} (hx : ev x = .func (.func f) fs cs) (w : World) :
    (execOp ev o).run P w = .ok (.enter f (fs ++ args.map ev ++ cs)) w := by
  obtain ⟨fn, h1, h2, h3⟩ := hf
  have h4 : fn.body.isNone = false := by cases hb : fn.body <;> simp_all
  simp only [execOp, ho, resolve, hx, Deferred.ofValue, Sem.run_bind, Sem.run_pure, Result.andThen_ok, invoke, callFunc, run_program, h1, h3, Bool.false_eq_true, if_false, h4]
theorem strips_rel {U : Nat → Prop} : ∀ {xs : List Operand} {g : Operand → AV} {ev : Operand → Value}, stripsT (xs.map g) → (∀ x ∈ xs, RelA U w F β (g x) (ev x)) → ∀ x ∈ xs, RelA U w F β (strip (g x)) (ev x)
  | y :: r, g, ev, h, G, x, hx => by
    have hy : RelA U w F β (strip (g y)) (ev y) ∧ stripsT (r.map g) := by
      simp only [List.map_cons] at h
      have hG := G y (by simp)
      cases hgy : g y with
      | opt u z =>
        rw [hgy] at h hG
        simp only [stripsT] at h
        simp only [RelA] at hG
        exact ⟨hG.1 h.1, h.2⟩
      | _ => rw [hgy] at h hG; simp only [stripsT] at h; exact ⟨hG, h⟩
    rcases List.mem_cons.1 hx with rfl | hx
    · exact hy.1
    · exact strips_rel hy.2 (fun z hz => G z (by simp [hz])) x hx
  | [], _, _, _, _, x, hx => by simp at hx
theorem relOpt {U : Nat → Prop} {c : Bool} {x : AV} {v : Value} (hc : c = true) (h : RelA U w F β x v) : RelA U w F β (.opt c x) v := by
  simp only [RelA]; exact ⟨fun _ => h, fun h' => by rw [hc] at h'; simp at h'⟩
theorem StepTo.opt {W : World} {N U F : Nat → Prop} {β : Nat → Option Bind} {h : Nat → Chunk} {w w' : World} {m : Nat} {e : Eff} {v : Value} {c : Bool} (hc : c = true) (S : StepTo W N U F β h w m e v w') : StepTo W N U F β h w m ⟨.opt c e.val, e.ups, e.fresh⟩ v w' := by
  obtain ⟨F', β', h1, h2, h3, h4⟩ := S
  exact ⟨F', β', h1, h2, relOpt hc h3, h4⟩
end
section
variable {P : Program} {W : World} {N U F : Nat → Prop} {β : Nat → Option Bind} {h hT : Nat → Chunk} {w : World} {a : Act} {m : Nat}
theorem CallOk.run (M : MemOk W N U F β h w) (hs : ∀ id, hT id ≠ .dead → hT id = h id) {f : FuncId} {args : List AV} {e : Eff} (hc : CallOk P f args hT m e) (hm : ∀ i, m ≤ i → i < m + e.fresh → ¬ U i) {vs : List Value} (hv : RelL U w F β args vs) : Enters P f ∧ Calls P f vs.toArray w fun en w' => ∃ v, en = .returned v ∧ StepTo W N U F β h w m e v w' := by
  rcases hc with ⟨ids, args', hs1, r, hs', h1, h2, rfl, h4, h5, rfl⟩ | ⟨args', r, h1, h2, h3, rfl⟩
  · exact ⟨h5.1, call_strict M hs h1 h2 h4 h5 hm hv⟩
  · exact ⟨h3.1, call_lend M hs m h1 h2 h3 hv⟩
theorem call_wp (M : MemOk W N U F β h w) (hs : ∀ id, hT id ≠ .dead → hT id = h id) {o : Oper} {x : Operand} {args : Array Operand} {ts : Array TypeId} (ho : o.op = .call ⟨.value x, args, ts⟩) {f : FuncId} {p q zs : List AV} (hg : RelA U w F β (.clo (.func f) p q) (a.eval x)) (hz : RelL U w F β zs (args.toList.map a.eval)) {e : Eff}
    (hc : CallOk P f (p ++ zs ++ q) hT m e) (hm : ∀ i, m ≤ i → i < m + e.fresh → ¬ U i) {next : Act → World → Prop} {Q : Exit → Act → World → Prop} (hn : ∀ v w', StepTo W N U F β h w m e v w' → next (a.put o.dst v) w') : o.wp P a w next Q := by
  simp only [RelA] at hg
  obtain ⟨fs, cs, hx, h1, h2⟩ := hg
  have hr := h1.append hz |>.append h2
  obtain ⟨k1, k2⟩ := hc.run M hs hm hr
  unfold Oper.wp
  rw [Calls.exec k1 ho hx]
  simp only [Oper.upon]
  have e1 : (fs.toList ++ args.toList.map a.eval ++ cs.toList).toArray = fs ++ args.map a.eval ++ cs := by
    apply Array.ext'; simp
  rw [e1] at k2
  refine k2.mono ?_
  rintro en w' ⟨v, rfl, S⟩
  exact hn v w' S
theorem ex2_wp (M : MemOk W N U F β h w) (hs : ∀ id, hT id ≠ .dead → hT id = h id) (hm0 : ¬ U m) {o : Oper} {g : Operand → AV} (G : ∀ x ∈ o.op.operands.toList, RelA U w F β (g x) (a.eval x)) {φ : Prop} {e : Eff} (he : ex3 P g hT m o.op = some (φ, e)) (hφ : φ) {next : Act → World → Prop} {Q : Exit → Act → World → Prop}
    (hn : ∀ v w', StepTo W N U F β h w m e v w' → next (a.put o.dst v) w') : o.wp P a w next Q := by
  obtain ⟨n, w', h1, h2, h3⟩ := ex3_run M hs hm0 G he hφ
  unfold Oper.wp
  rw [h1]
  cases n <;> simp only [isVal, Bool.false_eq_true] at h2
  · exact hn _ _ h3
  · exact hn _ _ h3
theorem opnd_call (x : Operand) (args : Array Operand) (ts : Array TypeId) (y : Operand) (hy : y = x ∨ y ∈ args.toList) : y ∈ (Op.operands (.call ⟨.value x, args, ts⟩)).toList := by
  simp [Op.operands, Call.operands]
  rcases hy with rfl | hy
  · exact .inl rfl
  · exact .inr (by simpa using hy)
theorem opX_run (M : MemOk W N U F β h w) (hs : ∀ id, hT id ≠ .dead → hT id = h id) (hm0 : ¬ U m) {o : Oper} {f : Nat → AV} (G : ∀ x ∈ o.op.operands.toList, RelA U w F β (getO f x) (a.eval x)) {K : Eff → Prop} (hm : ∀ e, K e → ∀ i, m ≤ i → i < m + e.fresh → ¬ U i) (hx : opX P (getO f) hT m K o.op) {next : Act → World → Prop} {Q : Exit → Act → World → Prop}
    (hn : ∀ e v w', K e → StepTo W N U F β h w m e v w' → next (a.put o.dst v) w') : o.wp P a w next Q := by
  unfold opX at hx
  split at hx
  · rename_i x args ts ho
    rw [ho] at G
    split at hx
    · rename_i fid p q hxx
      obtain ⟨e, h1, h2⟩ := hx
      exact call_wp M hs ho (by rw [← hxx]; exact G x (opnd_call _ _ _ _ (.inl rfl))) (map_rel args.toList fun y hy => G y (opnd_call _ _ _ _ (.inr hy))) h1 (hm e h2) fun v w' S => hn e v w' h2 S
    · exact hx.elim
  · split at hx
    · rename_i φ e he
      exact ex2_wp M hs hm0 G he hx.1 fun v w' S => hn e v w' hx.2 S
    · exact hx.elim
/-- A guarded operation that is carried out. -/
theorem opG_yes (M : MemOk W N U F β h w) (hs : ∀ id, hT id ≠ .dead → hT id = h id) (hm0 : ¬ U m) {o : Oper} {f : Nat → AV} (G : ∀ x ∈ o.op.operands.toList, RelA U w F β (getO f x) (a.eval x)) {c : Bool} (hc : c = true) {K : Eff → Prop} (hm : ∀ e, K e → ∀ i, m ≤ i → i < m + e.fresh → ¬ U i) (hx : opG P c (getO f) hT m K o.op) {next : Act → World → Prop} {Q : Exit → Act → World → Prop}
    (hn : ∀ e v w', K e → StepTo W N U F β h w m e v w' → next (a.put o.dst v) w') : o.wp P a w next Q := by
  unfold opG at hx
  split at hx
  · rename_i x args ts ho
    rw [ho] at G
    split at hx
    · rename_i fid p q hxx
      have both : stripsT ((Op.operands (.call ⟨.value x, args, ts⟩)).toList.map (getO f)) → RelA U w F β (.clo (.func fid) p q) (a.eval x) ∧ RelL U w F β (args.toList.map (fun x => strip (getO f x))) (args.toList.map a.eval) := by
        intro hst
        have G2 := strips_rel hst G
        exact ⟨by rw [← hxx]; exact G2 x (opnd_call _ _ _ _ (.inl rfl)), map_rel (g := fun x => strip (getO f x)) args.toList fun y hy => G2 y (opnd_call _ _ _ _ (.inr hy))⟩
      rcases hx with ⟨r, h1, h2⟩ | ⟨h1, h2⟩
      · obtain ⟨h3, h4⟩ := h1 hc
        obtain ⟨g1, g2⟩ := both h3
        exact call_wp M hs ho g1 g2 h4 (fun i h1 h2 => by simp at h2; omega) fun v w' S => hn _ v w' h2 (S.opt hc)
      · obtain ⟨h3, e, h4, h5⟩ := h1 hc
        obtain ⟨g1, g2⟩ := both h3
        exact call_wp M hs ho g1 g2 h4 (hm e h5) fun v w' S => hn e v w' h5 S
    · exact absurd (hc.symm.trans hx.1) (by decide)
  · rename_i cn x y ho
    rw [ho] at G
    split at hx
    · rename_i t hcn
      split at hx
      · rename_i φ r hp
        obtain ⟨h1, h2⟩ := hx.1 hc
        have G2 := strips_rel (xs := [cn]) (by simpa using h1) (fun z hz => G z (by simp at hz; subst hz; simp [Op.operands])) cn (by simp)
        rw [hcn] at G2
        have hr := pick_run hp h2 (G x (by simp [Op.operands])) (G y (by simp [Op.operands]))
        unfold Oper.wp
        have he : (execOp a.eval o).run P w = .ok (.value (if t then a.eval x else a.eval y)) w := by
          simp [execOp, ho, relB.1 G2, asBool]
        rw [he]
        exact hn _ _ w hx.2 (step_pure M m (relOpt hc hr))
      · exact absurd (hc.symm.trans hx.1) (by decide)
    · exact absurd (hc.symm.trans hx.1) (by decide)
  · split at hx
    · rename_i φ x he
      obtain ⟨h1, h2⟩ := hx.1 hc
      exact ex2_wp M hs hm0 (g := fun x => strip (getO f x)) (strips_rel h1 G) he h2 fun v w' S => hn _ v w' hx.2 (S.opt hc)
    · rename_i φ e _ he
      obtain ⟨h1, h2, h3⟩ := hx.1 hc
      exact ex2_wp M hs hm0 (g := fun x => strip (getO f x)) (strips_rel h1 G) he h2 fun v w' S => hn e v w' h3 S
    · exact absurd (hc.symm.trans hx.1) (by decide)
/-- A guarded operation that is passed over. -/
theorem opG_no (M : MemOk W N U F β h w) {o : Oper} {f : Nat → AV} {c : Bool} (hc : c = false) {K : Eff → Prop} (hx : opG P c (getO f) hT m K o.op) {next : Act → World → Prop}
    (hn : ∀ e v w', K e → StepTo W N U F β h w m e v w' → next (a.put o.dst v) w') : next (a.put o.dst undef) w := by
  have fin : ∀ x, RelA U w F β x undef → K ⟨x, [], 0⟩ → next (a.put o.dst undef) w := fun x hx hk => hn _ _ w hk (step_pure M m hx)
  have fo : ∀ x, RelA U w F β (.opt c x) undef := by
    intro x; simp only [RelA]; exact ⟨fun h' => by rw [hc] at h'; simp at h', fun _ => trivial⟩
  unfold opG at hx
  split at hx
  · split at hx
    · rcases hx with ⟨r, h1, h2⟩ | ⟨h1, h2⟩
      · exact fin _ (fo r) h2
      · exact fin _ (by simp only [RelA]) (h2 hc)
    · exact fin _ (by simp only [RelA]) hx.2
  · split at hx
    · split at hx
      · exact fin _ (fo _) hx.2
      · exact fin _ (by simp only [RelA]) hx.2
    · exact fin _ (by simp only [RelA]) hx.2
  · split at hx
    · exact fin _ (fo _) hx.2
    · exact fin _ (by simp only [RelA]) (hx.2 hc)
    · exact fin _ (by simp only [RelA]) hx.2
/-- What an operation looks at is known. -/
def Looks (ops : Array Oper) (o : Oper) (U F : Nat → Prop) (β : Nat → Option Bind) (w : World) (f : Nat → AV) (a : Act) : Prop := ∀ t ∈ o.looksAt ops, RelA U w F β (f t) (a.tmps.getD t undef)
theorem opWF_run {ops : Array Oper} (M : MemOk W N U F β h w) (hs : ∀ id, hT id ≠ .dead → hT id = h id) (hm0 : ¬ U m) {o : Oper} {f : Nat → AV} (G : Looks ops o U F β w f a) {K : Eff → Prop} (hm : ∀ e, K e → ∀ i, m ≤ i → i < m + e.fresh → ¬ U i) (hx : opWF P ops o f hT m K) {next : Act → World → Prop} {Q : Exit → Act → World → Prop}
    (hn : ∀ e v w', K e → StepTo W N U F β h w m e v w' → next (a.put o.dst v) w') :
    if Region.wanted o (yielded ops a.tmps) then o.wp P a w next Q ∨ (o.asks P a w ∧ LetsOut Q) else next (a.put o.dst undef) w := by
  have G1 : ∀ x ∈ o.op.operands.toList, RelA U w F β (getO f x) (a.eval x) := by
    intro x hx
    cases x with
    | tmp t => exact G t (by unfold Oper.looksAt; exact List.mem_append_left _ (List.mem_filterMap.2 ⟨.tmp t, hx, rfl⟩))
    | const v => exact relOfV v
    | global g => exact relC.2 ⟨rfl, rfl⟩
    | func f => simp [getO, RelA, RelL, Act.eval]
  unfold opWF at hx
  split at hx
  · rename_i hg
    rw [if_pos (by simp [Region.wanted, hg])]
    exact .inl (opX_run M hs hm0 G1 hm hx hn)
  · rename_i j b hg
    split at hx
    · exact hx.elim
    · rename_i c hc
      have key : Region.wanted o (yielded ops a.tmps) = c := by
        have hy : ∀ (d : Tmp) (t : Bool), (ops[j]?).bind (·.dst) = some d → a.tmps.getD d undef = .bool t → yielded ops a.tmps j = some t := by
          intro d t h1 h2
          unfold yielded
          rw [h1]
          simp only [Option.bind_some]
          rw [Array.getD_eq_getD_getElem?] at h2
          cases h3 : a.tmps[d]? with
          | none => rw [h3] at h2; simp [undef] at h2
          | some v => rw [h3] at h2; simp only [Option.getD_some] at h2; subst h2; rfl
        have hn' : ∀ (d : Tmp), (ops[j]?).bind (·.dst) = some d → a.tmps.getD d undef = undef → yielded ops a.tmps j = none := by
          intro d h1 h2
          unfold yielded
          rw [h1]
          simp only [Option.bind_some]
          rw [Array.getD_eq_getD_getElem?] at h2
          cases h3 : a.tmps[d]? with
          | none => rfl
          | some v => rw [h3] at h2; simp only [Option.getD_some] at h2; subst h2; rfl
        unfold Region.wanted
        rw [hg]
        simp only
        cases hd' : (ops[j]?).bind (·.dst) with
        | none => rw [hd'] at hc; simp [dstV, gcond] at hc
        | some d =>
          rw [hd'] at hc
          simp only [dstV] at hc
          have hT := G d (by unfold Oper.looksAt; rw [hg]; simp only [hd']; exact List.mem_append_right _ (by simp))
          unfold gcond at hc
          split at hc
          · rename_i t hl
            rw [hl] at hT
            rw [hy d t hd' (relB.1 hT)]
            simp only [Option.some.injEq] at hc
            subst hc
            cases b <;> cases t <;> rfl
          · rename_i u t hl
            rw [hl] at hT
            simp only [RelA] at hT
            simp only [Option.some.injEq] at hc
            subst hc
            cases u with
            | true =>
              have := hT.1 rfl
              simp only [RelP] at this
              rw [hy d t hd' this.1]
              cases b <;> cases t <;> rfl
            | false =>
              rw [hn' d hd' (hT.2 rfl)]
              rfl
          · simp at hc
      rw [key]
      cases hcc : c with
      | true => exact .inl (opG_yes M hs hm0 G1 hcc hm hx hn)
      | false =>
        simp only [Bool.false_eq_true, if_false]
        exact opG_no M hcc hx hn
end
section
variable {P : Program} {H : Hist} {s : St} {F : Nat → Prop} {β : Nat → Option Bind} {a : Act} {w : World}
theorem opW_run (C : Conc H s F β a w) {ops : Array Oper} {o : Oper} {K : St → Prop} (h : opW P H.nt ops o s K) {next : Act → World → Prop} {Q : Exit → Act → World → Prop} (hn : ∀ s' F' β' a' w', K s' → Conc H s' F' β' a' w' → next a' w') :
    if Region.wanted o (yielded ops a.tmps) then o.wp P a w next Q ∨ (o.asks P a w ∧ LetsOut Q) else next (a.put o.dst undef) w := by
  obtain ⟨hd, h⟩ := h
  split at h
  · rename_i neg xs hc
    obtain ⟨hg, hk⟩ := h
    have key : ∀ (op : BinOp) (t yt : TypeId) (x : Operand) (e sz : Nat), o.op = .binOp op t x (.const (.slice none 0 0)) yt → (op = .eql ∧ neg = false ∨ op = .neq ∧ neg = true) → P.underlying t = some (.slice e) → slOf (lookC s.h) (getO (look s.t) x) = some (sz, xs) → o.wp P a w next Q := by
      intro op t yt x e sz ho hop ht hsl
      obtain ⟨ad, c, hv, _, _, hx⟩ := slOf_run C.m (fun _ _ => rfl) hsl (C.G x)
      have hr : (execOp a.eval o).run P w = .ok (.value (.bool (xorB neg ad.isNone))) w := by
        have hev : a.eval (.const (.slice none 0 0)) = .slice none 0 0 := rfl
        have he : ∀ l : Nat, (Op.equalIn 10000 t (.slice ad l c) (.slice none 0 0)).run P w = .ok ad.isNone w := by
          intro l
          show (Op.equalIn (9999 + 1) t (.slice ad l c) (.slice none 0 0)).run P w = _
          unfold Op.equalIn
          simp only [Sem.run_bind, run_underlying ht, Result.andThen_ok]
          cases ad <;> simp
        rcases hop with ⟨rfl, rfl⟩ | ⟨rfl, rfl⟩
        · simp only [execOp, ho, hv, hev, eqGuard, binOp, Op.equal, Op.maxDepth, Sem.run_bind]
          simp [he, xorB]
        · simp only [execOp, ho, hv, hev, eqGuard, binOp, Op.equal, Op.maxDepth, Sem.run_bind]
          simp [he, xorB]
      unfold Oper.wp
      rw [hr]
      have hb : ad.isNone = true → xs = [] := by
        intro hb
        rcases hx with hx | ⟨b, q, hx, _⟩
        · exact hx
        · rw [hx] at hb; simp at hb
      obtain ⟨F', β', C'⟩ := C.step (step_pure (x := B (xorB neg ad.isNone)) (v := .bool (xorB neg ad.isNone)) C.m s.n (relB.2 rfl)) hd
      exact hn _ F' β' _ w (hk ad.isNone hb) C'
    rw [if_pos (by simp [Region.wanted, hg])]
    unfold nilCmp at hc
    split at hc
    · rename_i t x yt ho
      split at hc
      · rename_i ht hsl
        obtain ⟨_, u, _, h2, h3, _⟩ := ty_kind ht
        have := kind_sl h3
        subst this
        simp only [Option.some.injEq, Prod.mk.injEq] at hc
        obtain ⟨rfl, rfl⟩ := hc
        exact .inl (key _ _ _ _ _ _ ho (.inl ⟨rfl, rfl⟩) h2 hsl)
      · simp at hc
    · rename_i t x yt ho
      split at hc
      · rename_i ht hsl
        obtain ⟨_, u, _, h2, h3, _⟩ := ty_kind ht
        have := kind_sl h3
        subst this
        simp only [Option.some.injEq, Prod.mk.injEq] at hc
        obtain ⟨rfl, rfl⟩ := hc
        exact .inl (key _ _ _ _ _ _ ho (.inr ⟨rfl, rfl⟩) h2 hsl)
      · simp at hc
    · simp at hc
  · exact opWF_run C.m (fun _ _ => rfl) (Nat.lt_irrefl s.n) (fun t _ => C.t t) (fun e _ i h1 _ => by omega) h fun e v w' hk S => by
      obtain ⟨F', β', C'⟩ := C.step S hd
      rw [opK_eq] at hk
      exact hn _ F' β' _ w' hk C'
/-- What is shown of code. -/
def Post (H : Hist) (Q : Exit → St → Prop) (e : Exit) (a : Act) (w : World) : Prop := ∃ s F β, Conc H s F β a w ∧ Q e s
theorem awpL_run {ops : Array Oper} {Q : Exit → St → Prop} : ∀ (l : List Oper) (s : St) (F : Nat → Prop) (β : Nat → Option Bind) (a : Act) (w : World), awpL P H.nt ops l (Q .normal) s → Conc H s F β a w → wpList P ops (Post H Q) l a w
  | [], ⟨t, h0, n⟩, F, β, a, w, h, C => ⟨⟨t, h0, n⟩, F, β, C, h⟩
  | o :: r, ⟨t, h0, n⟩, F, β, a, w, h, C => by
    simp only [awpL] at h
    exact opW_run C h fun s' F' β' a' w' hk C' => awpL_run r s' F' β' a' w' hk C'
theorem awp_run (hd : ∀ (ops : Array Oper) (Q : Exit → St → Prop) (s : St) (F : Nat → Prop) (β : Nat → Option Bind) (a : Act) (w : World) (id : Nat), DrawG P H.nt ops (Q .normal) s → Conc H s F β a w → (Code.region id ops true).wp P (Post H Q) a w) :
    ∀ (c : Code) (Q : Exit → St → Prop) (s : St) (F : Nat → Prop) (β : Nat → Option Bind) (a : Act) (w : World), awp P H.nt H.k c Q s → Conc H s F β a w → c.wp P (Post H Q) a w := by
  intro c
  induction c with
  | skip => intro Q s F β a w h C; cases s; exact wp_skip ⟨_, F, β, C, h⟩
  | region id ops draw =>
    intro Q s F β a w h C
    cases s
    cases draw with
    | false => exact wp_region_list (awpL_run ops.toList _ F β a w h C)
    | true => exact hd ops Q _ F β a w id h C
  | seq x y ihx ihy =>
    intro Q s F β a w h C
    obtain ⟨st, sh, sn⟩ := s
    simp only [awp] at h
    refine wp_seq (wp_mono (ihx _ _ F β a w h C) ?_)
    rintro e a' w' ⟨s', F', β', C', hq⟩
    cases e with
    | normal => exact ihy Q s' F' β' a' w' hq C'
    | _ => exact ⟨s', F', β', C', hq⟩
  | cond c x y ihx ihy =>
    intro Q s F β a w h C
    obtain ⟨st, sh, sn⟩ := s
    simp only [awp] at h
    have one : ∀ Q' : Exit → St → Prop, CondG (getO (look st) c) (awp P H.nt H.k x Q') (awp P H.nt H.k y Q') ⟨st, sh, sn⟩ → (Code.cond c x y).wp P (Post H Q') a w := by
      intro Q' h
      unfold CondG at h
      split at h
      · rename_i b hb
        have hg := C.G c
        rw [hb] at hg
        exact wp_cond_split (relB.1 hg) (fun hb => ihx Q' _ F β a w (h.1 hb) C) fun hb => ihy Q' _ F β a w (h.2 hb) C
      · exact h.elim
    rcases h with h | ⟨α, S, Pr, h1, h2⟩
    · exact one Q h
    · refine wp_mono (one _ h1) ?_
      rintro e a' w' ⟨s', F', β', C', hq⟩
      cases e with
      | normal =>
        obtain ⟨z, hz, hto⟩ := hq
        obtain ⟨F2, β2, C2⟩ := hto H F' β' a' w' rfl C'
        exact ⟨S z, F2, β2, C2, h2 z hz⟩
      | _ => exact ⟨s', F', β', C', hq⟩
  | block id c ih =>
    intro Q s F β a w h C
    obtain ⟨st, sh, sn⟩ := s
    simp only [awp] at h
    refine wp_block (wp_mono (ih _ _ F β a w h C) ?_)
    rintro e a' w' ⟨s', F', β', C', hq⟩
    cases e with
    | exit i =>
      simp only [Exit.inBlock]
      simp only [blkK] at hq
      by_cases hi : i = id
      · rw [if_pos hi] at hq ⊢; exact ⟨s', F', β', C', hq⟩
      · rw [if_neg hi] at hq ⊢; exact ⟨s', F', β', C', hq⟩
    | _ => exact ⟨s', F', β', C', hq⟩
  | loop c ih =>
    intro Q s F β a w h C
    obtain ⟨st, sh, sn⟩ := s
    simp only [awp] at h
    obtain ⟨α, S, Pr, μ, ⟨x0, hx0, hto⟩, hround⟩ := h
    obtain ⟨F0, β0, C0⟩ := hto H F β a w rfl C
    classical
    let Iv : Act → World → Nat → Prop := fun a w n => ∃ x F β, Pr x ∧ Conc H (S x) F β a w ∧ μ x = n
    refine wp_loop (fun a w => ∃ n, Iv a w n) (fun a w => if h : ∃ n, Iv a w n then Classical.choose (least h) else 0) ⟨_, x0, F0, β0, hx0, C0, rfl⟩ ?_
    intro a1 w1 hI
    obtain ⟨x, F1, β1, hx, C1, hμ⟩ := (Classical.choose_spec (least hI)).1
    refine wp_mono (ih _ (S x) F1 β1 a1 w1 (hround x hx) C1) ?_
    rintro e a' w' ⟨s', F', β', C', hq⟩
    cases e with
    | normal =>
      obtain ⟨y, hy, hlt, hto'⟩ := hq
      obtain ⟨F2, β2, C2⟩ := hto' H F' β' a' w' rfl C'
      have hI' : ∃ n, Iv a' w' n := ⟨_, y, F2, β2, hy, C2, rfl⟩
      refine ⟨hI', ?_⟩
      simp only [dif_pos hI', dif_pos hI]
      rw [← hμ]
      exact Nat.lt_of_le_of_lt ((Classical.choose_spec (least hI')).2 _ ⟨y, F2, β2, hy, C2, rfl⟩) hlt
    | _ => exact ⟨s', F', β', C', hq⟩
  | rangeFunc f ps x y _ _ => intro Q s F β a w h C; cases s; exact h.elim
  | exit id => intro Q s F β a w h C; cases s; exact wp_exit ⟨_, F, β, C, h⟩
  | scope c ih =>
    intro Q s F β a w h C
    obtain ⟨st, sh, sn⟩ := s
    simp only [awp] at h
    refine wp_scope_straight (wp_mono (ih _ _ F β a w h C) ?_)
    rintro e a' w' ⟨s', F', β', C', hq⟩
    cases e with
    | goto l => exact hq.elim
    | _ => exact ⟨s', F', β', C', hq⟩
  | label l => intro Q s F β a w h C; cases s; exact wp_label ⟨_, F, β, C, h⟩
  | goto l => intro Q s F β a w h C; cases s; exact h.elim
  | ret => intro Q s F β a w h C; cases s; exact wp_ret ⟨_, F, β, C, h⟩
  | refuse why => intro Q s F β a w h C; cases s; exact h.elim
end
end Go.Proofs.Ytibknlfadoeglaa
