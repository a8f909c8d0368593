/- The data of the program, and their cells. -/
import Derived.Test.YtibknlfadoeglaaAmO
import Derived.Test.YtibknlfadoeglaaAmT
namespace Go.Proofs.Ytibknlfadoeglaa
set_option linter.all false
open Go.RowKit
/-- In the range of an int. -/
abbrev In64 (n : Int) : Prop := -9223372036854775808 ≤ n ∧ n ≤ 9223372036854775807
abbrev pI (n : Int) : PV := .v (.int .i64 n)
abbrev pB (b : Bool) : PV := .v (.bool b)
def i64P (n : Int) : List PV := [pI n]
def u64P (n : Nat) : List PV := [.v (.int .u64 n)]
def boolP (b : Bool) : List PV := [pB b]
def strP (s : ByteArray) : List PV := [.v (.string s)]
/-- A struct out of its cells. -/
abbrev aggP (ps : List PV) : AV := .agg (ps.map .c)
structure Cel where
  x : Int
  y : Int
  deriving DecidableEq, Inhabited
def celP (c : Cel) : List PV := [pI c.x, pI c.y]
abbrev celA (c : Cel) : AV := .agg [I .i64 c.x, I .i64 c.y]
structure Fld where
  w : Int
  h : Int
  p : List Int
  deriving DecidableEq, Inhabited
abbrev fldA (f : Fld) : AV := .agg [I .i64 f.w, I .i64 f.h, .c (.sl 1 (f.p.map i64P))]
structure Trp where
  id : Int
  owner : Int
  kind : Int
  c : Cel
  life : Int
  load : Int
  deriving DecidableEq, Inhabited
def trpP (t : Trp) : List PV := [pI t.id, pI t.owner, pI t.kind, pI t.c.x, pI t.c.y, pI t.life, pI t.load]
structure Wld where
  f : Fld
  bases : List Cel
  stocks : List Int
  mines : List Int
  troops : List Trp
  next : Int
  now : Int
  deriving DecidableEq, Inhabited
abbrev wldA (w : Wld) : AV := .agg [I .i64 w.f.w, I .i64 w.f.h, .c (.sl 1 (w.f.p.map i64P)), .c (.sl 2 (w.bases.map celP)), .c (.sl 1 (w.stocks.map i64P)), .c (.sl 1 (w.mines.map i64P)), .c (.sl 7 (w.troops.map trpP)), I .i64 w.next, I .i64 w.now]
structure Ord where
  by_ : Int
  kind : Int
  who : Int
  c : Cel
  what : Int
  deriving DecidableEq, Inhabited
def ordP (o : Ord) : List PV := [pI o.by_, pI o.kind, pI o.who, pI o.c.x, pI o.c.y, pI o.what]
abbrev ordA (o : Ord) : AV := .agg [I .i64 o.by_, I .i64 o.kind, I .i64 o.who, I .i64 o.c.x, I .i64 o.c.y, I .i64 o.what]
/-- Element i of a row of cells. -/
theorem getD_in {α : Type} [Inhabited α] (f : α → List PV) (l : List α) (i : Nat) (h : i < l.length) : (l.map f).getD i [] = f (l.getD i default) := by
  simp [h]
theorem getD_at {α : Type} [Inhabited α] (l : List α) (i : Nat) (h : i < l.length) : l.getD i default = l[i] := by simp [h]
theorem take_snoc {α : Type} [Inhabited α] (l : List α) (k : Nat) (h : k < l.length) : l.take (k + 1) = l.take k ++ [l.getD k default] := by rw [List.take_succ_eq_append_getElem h, getD_at _ _ h]
/-- A row of which the first i elements are already turned. -/
def partL {α : Type} (f : α → α) (i : Nat) (g : List α) : List α := (g.take i).map f ++ g.drop i
theorem partL_len {α : Type} (f : α → α) (i : Nat) (g : List α) : (partL f i g).length = g.length := by simp [partL]; omega
theorem partL_0 {α : Type} (f : α → α) (g : List α) : partL f 0 g = g := by simp [partL]
theorem partL_all {α : Type} (f : α → α) (g : List α) : partL f g.length g = g.map f := by simp [partL]
theorem partL_getD {α : Type} [Inhabited α] (f : α → α) (i : Nat) (g : List α) (h : i < g.length) : (partL f i g).getD i default = g.getD i default := by
  rw [getD_at _ _ (by rw [partL_len]; exact h), getD_at _ _ h]
  unfold partL
  rw [List.getElem_append_right (by simp; omega)]
  simp [Nat.min_eq_left (Nat.le_of_lt h)]
theorem partL_succ {α : Type} [Inhabited α] (f : α → α) (i : Nat) (g : List α) (h : i < g.length) : partL f (i + 1) g = (partL f i g).set i (f (g.getD i default)) := by
  unfold partL
  rw [List.set_append_right _ _ (by simp; omega), getD_at _ _ h]
  rw [List.length_map, List.length_take, Nat.min_eq_left (Nat.le_of_lt h), Nat.sub_self, List.drop_eq_getElem_cons h, List.set_cons_zero, List.take_succ_eq_append_getElem h, List.map_append, List.append_assoc]
  rfl
theorem partL_same {α : Type} [Inhabited α] (f : α → α) (i : Nat) (g : List α) (h : i < g.length) (e : f (g.getD i default) = g.getD i default) : partL f (i + 1) g = partL f i g := by
  unfold partL
  rw [List.take_succ_eq_append_getElem h, List.map_append, List.append_assoc, List.drop_eq_getElem_cons h]
  rw [getD_at _ _ h] at e
  simp [e]
theorem getD_mem {α : Type} [Inhabited α] (l : List α) (i : Nat) (h : i < l.length) : l.getD i default ∈ l := by rw [getD_at _ _ h]; exact List.getElem_mem h
end Go.Proofs.Ytibknlfadoeglaa
