/- The abstract machine, part B: what an operation that writes nothing yields. -/
import Derived.Test.YtibknlfadoeglaaAmA
import Derived.Laws.Entries
import Derived.Laws.Cells
import Derived.Laws.Rows
import Derived.WalkKit
namespace Go.Proofs.Ytibknlfadoeglaa
set_option linter.all false
open Go.RowKit
inductive TK where
  | int (k : IntKind) | bool | str | sl (e : TypeId) | arr (n : Nat) (e : TypeId) | st (fs : List (Option (Nat × Nat × Bool))) | ptr (e : TypeId) | mp (k e : TypeId) | ifc | other
/-- What a type is. -/
structure TD where
  k : TK
  agg : Bool
  size : Nat
  bytes : Nat
  zero : List Value
def aggD : TypeDesc → Bool
  | .struct _ | .array _ _ => true
  | _ => false
def fieldTD (P : Program) (f : Field) : Option (Nat × Nat × Bool) :=
  match P.info? f.type, P.underlying f.type with
  | some i, some d => some (f.offset, i.size, aggD d)
  | _, _ => none
def kindOf (P : Program) : TypeDesc → TK
  | .int k => .int k
  | .bool => .bool
  | .string => .str
  | .slice e => .sl e
  | .array n e => .arr n e
  | .struct fs => .st (fs.toList.map (fieldTD P))
  | .pointer e => .ptr e
  | .map k e => .mp k e
  | .interface _ => .ifc
  | _ => .other
def ty (P : Program) (t : TypeId) : Option TD :=
  match P.info? t, P.underlying t with
  | some i, some d => some ⟨kindOf P d, aggD d, i.size, i.bytes, match i.zero with | some z => z.cells.toList | none => []⟩
  | _, _ => none
theorem ty_some {P : Program} {t : TypeId} {d : TD} (h : ty P t = some d) : ∃ i u, P.info? t = some i ∧ P.underlying t = some u ∧ d = ⟨kindOf P u, aggD u, i.size, i.bytes, match i.zero with | some z => z.cells.toList | none => []⟩ := by
  unfold ty at h
  split at h
  · rename_i i u h1 h2
    exact ⟨i, u, h1, h2, (Option.some.inj h).symm⟩
  · simp at h
abbrev I (k : IntKind) (n : Int) : AV := .c (.v (.int k n))
abbrev B (b : Bool) : AV := .c (.v (.bool b))
abbrev S (s : ByteArray) : AV := .c (.v (.string s))
/-- What a temporary, a constant is. -/
def ofV : Value → AV
  | .agg cs => if cs.toList.all (·.oneCell') then .agg (cs.toList.map fun v => .c (.v v)) else .undef
  | .tuple vs => .tup (vs.toList.map fun _ => .undef)
  | v => .c (.v v)
def getO (g : Nat → AV) : Operand → AV
  | .tmp t => g t
  | .const v => ofV v
  | .global g => .c (.v (.pointer (some ⟨g, 0, none⟩)))
  | .func f => .clo (.func f) [] []
def intBin (op : BinOp) (k : IntKind) (a : Int) (k' : IntKind) (b : Int) : Option (Prop × AV) :=
  match op with
  | .add => some (k = k', I k (k.wrap (a + b)))
  | .sub => some (k = k', I k (k.wrap (a - b)))
  | .mul => some (k = k', I k (k.wrap (a * b)))
  | .quo => some (k = k' ∧ ¬ b = 0, I k (k.wrap (a.tdiv b)))
  | .rem => some (k = k' ∧ ¬ b = 0, I k (a.tmod b))
  | .and => some (k = k', I k (bits .and k a b))
  | .or => some (k = k', I k (bits .or k a b))
  | .xor => some (k = k', I k (bits .xor k a b))
  | .andNot => some (k = k', I k (bits .andNot k a b))
  | .shl => some (0 ≤ b, I k (k.wrap (a * 2 ^ (min b.toNat k.bits))))
  | .shr => some (0 ≤ b, I k (a.fdiv (2 ^ (min b.toNat k.bits))))
  | .eql => some (k = k', B (decide (a = b)))
  | .neq => some (k = k', B (!decide (a = b)))
  | .lss => some (k = k', B (decide (a < b)))
  | .leq => some (k = k', B (decide (a ≤ b)))
  | .gtr => some (k = k', B (decide (b < a)))
  | .geq => some (k = k', B (decide (b ≤ a)))
def strBin (op : BinOp) (a b : ByteArray) : Option (Prop × AV) :=
  match op with
  | .add => some (((a.size + b.size : Nat) : Int) ≤ 9223372036854775807, S (a ++ b))
  | .eql => some (True, B (decide (a = b)))
  | .neq => some (True, B (!decide (a = b)))
  | _ => none
/-- Types whose values are compared cell by cell: of what kind each cell is (0 a number, 1 a bool, 2 a text). -/
def flatFs (P : Program) (q : TypeId → Option (List Nat)) : Nat → List Field → Option (List Nat)
  | _, [] => some []
  | o, f :: r => match q f.type with
    | some n => if f.name != "_" && Nat.beq f.offset o && Nat.beq (P.cellsOf f.type) n.length then (match flatFs P q (o + n.length) r with | some m => some (n ++ m) | none => none) else none
    | none => none
def flatN (P : Program) : Nat → TypeId → Option (List Nat)
  | 0, _ => none
  | d + 1, t => match P.underlying t with
    | some .bool => some [1]
    | some (.int _) => some [0]
    | some .string => some [2]
    | some (.struct fs) => if P.stoodInHeld t then none else flatFs P (flatN P d) 0 fs.toList
    | _ => none
def eqVal : Nat → Value → Value → Option Bool
  | 0, .int k a, .int k' b => if k = k' then some (decide (a = b)) else none
  | 1, .bool a, .bool b => some (decide (a = b))
  | 2, .string a, .string b => some (decide (a = b))
  | _, _, _ => none
def eqVals : List Nat → List Value → List Value → Option Bool
  | [], [], [] => some true
  | k :: ks, a :: as, b :: bs => match eqVal k a b, eqVals ks as bs with
    | some x, some y => some (x && y)
    | _, _ => none
  | _, _, _ => none
def eqCells : List Nat → List AV → List AV → Option Bool
  | [], [], [] => some true
  | k :: ks, .c (.v a) :: as, .c (.v b) :: bs => match eqVal k a b, eqCells ks as bs with
    | some x, some y => some (x && y)
    | _, _ => none
  | _, _, _ => none
def nilP (h : Nat → Chunk) : AV → Option Bool
  | .c (.v (.pointer none)) => some true
  | .ptr id _ _ => match h id with | .dead => none | _ => some false
  | .fel _ _ _ _ => some false
  | _ => none
def aggT (P : Program) (t : TypeId) : Bool := match P.underlying t with | some (.struct _) => true | _ => false
/-- A comparison of values that are neither two numbers nor two texts. -/
def eqAV (P : Program) (h : Nat → Chunk) (t : TypeId) : AV → AV → Option Bool
  | .c (.v (.bool a)), .c (.v (.bool b)) => match ty P t with | some ⟨.bool, _, _, _, _⟩ => some (decide (a = b)) | _ => none
  | .agg xs, .agg ys => match flatN P 9 t, aggT P t with | some n, true => eqCells n xs ys | _, _ => none
  | x, y => match ty P t with
    | some ⟨.ptr _, _, _, _, _⟩ => match nilP h x, nilP h y with
      | some true, some b => some b
      | some b, some true => some b
      | _, _ => none
    | _ => none
def binAV (P : Program) (h : Nat → Chunk) (op : BinOp) (t : TypeId) (x y : AV) : Option (Prop × AV) :=
  match x, y with
  | .c (.v (.int k a)), .c (.v (.int k' b)) => intBin op k a k' b
  | .c (.v (.string a)), .c (.v (.string b)) => strBin op a b
  | x, y => match op, eqAV P h t x y with
    | .eql, some b => some (True, B b)
    | .neq, some b => some (True, B (!b))
    | _, _ => none
def unAV (op : UnOp) : AV → Option (Prop × AV)
  | .c (.v (.int k n)) => match op with
    | .neg => some (True, I k (k.wrap (0 - n)))
    | .xor => some (True, I k (bits .xor k (if k.signed then -1 else k.max) n))
    | _ => none
  | .c (.v (.bool b)) => match op with
    | .not => some (True, B (!b))
    | _ => none
  | _ => none
def bsel (t : Bool) (p q : Bool) : Bool := match t with | true => p | false => q
/-- The value of a && b, a || b. -/
def pickAV (t : Bool) (a b : AV) : Option (Prop × AV) :=
  match a, b with
  | .opt u (.c (.v (.bool p))), .opt u' (.c (.v (.bool q))) => some ((t = true → u = true) ∧ (t = false → u' = true), B (bsel t p q))
  | .opt u (.c (.v (.bool p))), .c (.v (.bool q)) => some (t = true → u = true, B (bsel t p q))
  | .c (.v (.bool p)), .opt u (.c (.v (.bool q))) => some (t = false → u = true, B (bsel t p q))
  | .c (.v (.bool p)), .c (.v (.bool q)) => some (True, B (bsel t p q))
  | .c (.v (.bool p)), .undef => some (t = true, B p)
  | .opt u (.c (.v (.bool p))), .undef => some (t = true ∧ u = true, B p)
  | .undef, .c (.v (.bool q)) => some (t = false, B q)
  | .undef, .opt u (.c (.v (.bool q))) => some (t = false ∧ u = true, B q)
  | _, _ => none
/-- The elements of a slice that is only read. -/
def slOf (h : Nat → Chunk) : AV → Option (Nat × List (List PV))
  | .c (.sl sz xs) => some (sz, xs)
  | .c (.v (.slice none 0 0)) => some (0, [])
  | .own id => match h id with | .row _ sz xs => some (sz, xs) | _ => none
  | .view id o l => match h id with | .row _ sz xs => some (sz, (xs.drop o).take l) | _ => none
  | _ => none
/-- n cells from a place on. -/
def cellsAt (h : Nat → Chunk) (n : Nat) : AV → Option (Prop × List AV)
  | .ptr id i o => match h id with
    | .row _ sz xs => if Nat.ble (o + n) sz then some (i < xs.length, (((xs.getD i []).drop o).take n).map .c) else none
    | .blk _ cs => if Nat.ble (o + n) cs.length then some (i = 0, (cs.drop o).take n) else none
    | _ => none
  | .fel sz xs i o => if Nat.ble (o + n) sz then some (i < xs.length, (((xs.getD i []).drop o).take n).map .c) else none
  | _ => none
def cellsOf : AV → Option (List AV)
  | .agg xs => some xs
  | .tup _ => none
  | .undef => none
  | .opt _ _ => none
  | x => some [x]
/-- Cells read as a value of a type. -/
def valOf (agg : Bool) (cs : List AV) : Option AV :=
  if agg then some (.agg cs) else match cs with | [x] => some x | _ => none
def loadAV (P : Program) (h : Nat → Chunk) (t : TypeId) (p : AV) : Option (Prop × AV) :=
  match ty P t with
  | some d => match cellsAt h d.size p with
    | some (φ, cs) => match valOf d.agg cs with
      | some x => some (φ, x)
      | none => none
    | none => none
  | none => none
def addO (h : Nat → Chunk) (p : AV) (n : Nat) : Option AV :=
  match p with
  | .ptr id i o => match h id with | .dead => none | _ => some (.ptr id i (o + n))
  | .fel sz xs i o => some (.fel sz xs i (o + n))
  | _ => none
def fieldAddrAV (P : Program) (h : Nat → Chunk) (s : TypeId) (p : AV) (f : Nat) : Option (Prop × AV) :=
  match ty P s with
  | some ⟨.st fs, _, _, _, _⟩ => match fs[f]? with
    | some (some (o, n, _)) => if n = 0 then none else match addO h p o with | some q => some (True, q) | none => none
    | _ => none
  | _ => none
def partAV (agg : Bool) (o n : Nat) (cs : List AV) : Option AV :=
  if agg then some (.agg ((cs.drop o).take n)) else cs[o]?
def fieldAV (P : Program) (s : TypeId) (x : AV) (f : Nat) : Option (Prop × AV) :=
  match ty P s, x with
  | some ⟨.st fs, _, _, _, _⟩, .agg cs => match fs[f]? with
    | some (some (o, n, a)) => match partAV a o n cs with | some y => some (True, y) | none => none
    | _ => none
  | _, _ => none
def indexAddrAV (P : Program) (h : Nat → Chunk) (t : TypeId) (x : AV) (i : AV) : Option (Prop × AV) :=
  match i with
  | .c (.v (.int _ n)) => match ty P t with
    | some ⟨.sl e, _, _, _, _⟩ => match ty P e with
      | some d => match x with
        | .c (.sl sz xs) => some (d.size = sz ∧ 0 ≤ n ∧ n < xs.length, .fel sz xs n.toNat 0)
        | .own id => match h id with | .row _ sz xs => some (d.size = sz ∧ 0 ≤ n ∧ n < xs.length, .ptr id n.toNat 0) | _ => none
        | .view id o l => match h id with | .row _ sz xs => some (d.size = sz ∧ 0 ≤ n ∧ n < l, .ptr id (o + n.toNat) 0) | _ => none
        | _ => none
      | none => none
    | some ⟨.arr m e, _, _, _, _⟩ => match ty P e with
      | some d => match addO h x (n.toNat * d.size) with | some q => some (0 ≤ n ∧ n < m, q) | none => none
      | none => none
    | _ => none
  | _ => none
def indexAV (P : Program) (t : TypeId) (x : AV) (i : AV) : Option (Prop × AV) :=
  match i, x with
  | .c (.v (.int _ n)), .c (.v (.string s)) => match ty P t with
    | some ⟨.str, _, _, _, _⟩ => some (0 ≤ n ∧ n < s.size, I .u8 ((s.data.toList.getD n.toNat 0).toNat : Nat))
    | _ => none
  | .c (.v (.int _ n)), .agg cs => match ty P t with
    | some ⟨.arr m e, _, _, _, _⟩ => match ty P e with
      | some d => match partAV d.agg (n.toNat * d.size) d.size cs with | some y => some (0 ≤ n ∧ n < m, y) | none => none
      | none => none
    | _ => none
  | _, _ => none
def bound (d : Int) : Option AV → Option Int
  | none => some d
  | some (.c (.v (.int _ n))) => some n
  | _ => none
def sliceAV (P : Program) (h : Nat → Chunk) (t : TypeId) (x : AV) (lo hi : Option AV) : Option (Prop × AV) :=
  match ty P t with
  | some ⟨.str, _, _, _, _⟩ => match x with
    | .c (.v (.string s)) => match bound 0 lo, bound s.size hi with
      | some l, some r => some (0 ≤ l ∧ l ≤ r ∧ r ≤ s.size, S (s.extract l.toNat r.toNat))
      | _, _ => none
    | _ => none
  | some ⟨.sl e, _, _, _, _⟩ => match ty P e with
    | some d => match x with
      | .c (.sl sz xs) => match lo, hi with
        | none, some (.c (.v (.int _ r))) => some (d.size = sz ∧ 0 ≤ r ∧ r ≤ xs.length, .c (.sl sz (xs.take r.toNat)))
        | some (.c (.v (.int _ l))), none => some (d.size = sz ∧ 0 ≤ l ∧ l ≤ xs.length, .c (.sl sz (xs.drop l.toNat)))
        | some (.c (.v (.int _ l))), some (.c (.v (.int _ r))) => some (d.size = sz ∧ 0 ≤ l ∧ l ≤ r ∧ r ≤ xs.length, .c (.sl sz ((xs.take r.toNat).drop l.toNat)))
        | none, none => some (d.size = sz, .c (.sl sz xs))
        | _, _ => none
      | .own id => match h id with
        | .row _ sz xs => match bound 0 lo, bound xs.length hi with
          | some l, some r => some (d.size = sz ∧ 0 ≤ l ∧ l ≤ r ∧ r ≤ xs.length, .view id l.toNat (r.toNat - l.toNat))
          | _, _ => none
        | _ => none
      | .view id o n => match h id with
        | .row _ sz xs => match bound 0 lo, bound n hi with
          | some l, some r => some (d.size = sz ∧ 0 ≤ l ∧ l ≤ r ∧ r ≤ n, .view id (o + l.toNat) (r.toNat - l.toNat))
          | _, _ => none
        | _ => none
      | _ => none
    | none => none
  | _ => none
def convAV (P : Program) (h : Nat → Chunk) (a b : TypeId) (x : AV) : Option (Prop × AV) :=
  match ty P a, ty P b, x with
  | some _, some ⟨.int k, _, _, _, _⟩, .c (.v (.int _ n)) => some (True, I k (k.wrap n))
  | some ⟨.str, _, _, _, _⟩, some ⟨.str, _, _, _, _⟩, .c (.v (.string s)) => some (True, S s)
  | _, _, _ => none
def lenAV (P : Program) (h : Nat → Chunk) (t : TypeId) (x : AV) : Option (Prop × AV) :=
  match ty P t, x with
  | some ⟨.str, _, _, _, _⟩, .c (.v (.string s)) => some (True, I .i64 s.size)
  | some ⟨.sl _, _, _, _, _⟩, .view id _ l => match h id with | .dead => none | _ => some (True, I .i64 l)
  | some ⟨.sl _, _, _, _, _⟩, x => match slOf h x with
    | some (_, xs) => some (True, I .i64 xs.length)
    | none => none
  | some ⟨.arr n _, _, _, _, _⟩, _ => some (True, I .i64 n)
  | _, _ => none
def minInts (k : IntKind) (x : Int) : List AV → Option Int
  | [] => some x
  | .c (.v (.int _ y)) :: r => minInts k (if y < x then y else x) r
  | _ => none
def maxInts (k : IntKind) (x : Int) : List AV → Option Int
  | [] => some x
  | .c (.v (.int _ y)) :: r => maxInts k (if y > x then y else x) r
  | _ => none
def isPtr (h : Nat → Chunk) : AV → Bool
  | .ptr id _ _ => match h id with | .dead => false | _ => true
  | .fel _ _ _ _ => true
  | .clo (.func _) _ _ => true
  | _ => false
/-- What an operation that writes nothing yields: what is to be shown, and the value. -/
def ex1 (P : Program) (g : Operand → AV) (h : Nat → Chunk) : Op → Option (Prop × AV)
  | .move x => some (True, g x)
  | .assign x => some (True, g x)
  | .pick c a b => match g c with
    | .c (.v (.bool t)) => pickAV t (g a) (g b)
    | _ => none
  | .load t a => loadAV P h t (g a)
  | .nilCheck x => if isPtr h (g x) then some (True, g x) else none
  | .binOp op t x y _ => binAV P h op t (g x) (g y)
  | .unOp op _ x => unAV op (g x)
  | .convert a b x => convAV P h a b (g x)
  | .makeInterface t x => match ty P t with
    | some ⟨.ifc, _, _, _, _⟩ => none
    | some _ => some (True, .ifc t (g x))
    | none => none
  | .makeFunc f a c => some (True, .clo f (a.toList.map g) (c.toList.map g))
  | .slice t x lo hi none => sliceAV P h t (g x) (lo.map g) (hi.map g)
  | .fieldAddr s x f => fieldAddrAV P h s (g x) f
  | .field s x f => fieldAV P s (g x) f
  | .indexAddr t x i => indexAddrAV P h t (g x) (g i)
  | .index t x i => indexAV P t (g x) (g i)
  | .extract x i => match g x with
    | .tup xs => match xs[i]? with | some y => some (True, y) | none => none
    | _ => none
  | .call ⟨.builtin .len, args, ts⟩ => match ts[0]?, args[0]? with
    | some t, some x => lenAV P h t (g x)
    | _, _ => none
  | .call ⟨.builtin .min, args, _⟩ => match args.toList.map g with
    | .c (.v (.int k x)) :: r => match minInts k x r with | some y => some (True, I k y) | none => none
    | _ => none
  | .call ⟨.builtin .max, args, _⟩ => match args.toList.map g with
    | .c (.v (.int k x)) :: r => match maxInts k x r with | some y => some (True, I k y) | none => none
    | _ => none
  | _ => none
end Go.Proofs.Ytibknlfadoeglaa
