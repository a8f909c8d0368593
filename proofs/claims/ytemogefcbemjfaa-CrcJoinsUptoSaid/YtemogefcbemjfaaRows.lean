/-
  No cell of these rows narrows 'for every input' (looked for: loops, veiled, ifaces, maps, wideKeys, modest, calm, conditions, laid).
  DERIVED. THE GIVEN ROWS OF THIS SEAT. 10 by the template 'for every input the law returns true; each argument reads behind the call as it read before'; 0 by the template 'total and deterministic' (their statements: YtemogefcbemjfaaTotals.lean).
  GIVEN WITH THE SEED: the statements are not yours to turn. If you find one false, say at which input.
  Laid BY PROGRAM, IN A SANDBOX (cutbox-rows.mjs): the forced cells as the released guide's own fill.sh prints them over the translation f118ad1457335066… (all of the seat's roots in one cut). By AI agents, Wed Nov 11 2026. No macro, syntax, notation, axiom, sorry.
-/
import Derived.Test.YtemogefcbemjfaaChecked
import GoSem.Claim
import GoSem.ClaimJoined
import GoSem.ClaimMapViews
import Derived.JoinedTies
import Derived.KernelRfl
namespace Go.Proofs.Ytemogefcbemjfaa
/- THE CELL 'sum', in the pinned program and in every row, IS THE sha256 OF THE DUMP (.gsa) THAT YtemogefcbemjfaaProg.lean LOADS. Nothing in Lean hashes anything: it is a label: what it is worth is what the hold of that sum in a sandbox is worth. -/
noncomputable def Try.pinned : Pinned := { name := "ytemogefcbemjfaa", sum := "f118ad1457335066cea39cf6b19f95be1ee95856a4e71611f760e165985584e7", checked := Try.checked }
namespace Rows
def none {H : Type} : Left H := { results := [], args := [] }

/-- 'mustlaw.Names': WHATEVER THE INPUT: true; the input reads as it did. -/
def namesSpec : ChangeSpec := { name := "names", fn := fun _ => fun
  | [] => { results := [.lit (.bool true)], args := [] }
  | _ => none }
def namesRow : OpenClaim := { program := "ytemogefcbemjfaa", sum := "f118ad1457335066cea39cf6b19f95be1ee95856a4e71611f760e165985584e7", func := "musterfield/mustlaw.Names", spec := "names", apart := false }
def NamesSaid : Prop := namesRow.holds Try.pinned (OpenSpec.ofChange namesSpec)

/-- ITS FALSE NEIGHBOUR: 'it returns false'. Refute it at one input. -/
def namesWrong : ChangeSpec := { name := "names", fn := fun _ => fun
  | [] => { results := [.lit (.bool false)], args := [] }
  | _ => none }
def NamesWrongFalsely : Prop := namesRow.holds Try.pinned (OpenSpec.ofChange namesWrong)

/-- 'mustlaw.MarkSays': WHATEVER THE INPUT: true; the input reads as it did. -/
def markSaysSpec : ChangeSpec := { name := "markSays", fn := fun _ => fun
  | [d1, d2, d3, d4] => { results := [.lit (.bool true)], args := [d1, d2, d3, d4] }
  | _ => none }
def markSaysRow : OpenClaim := { program := "ytemogefcbemjfaa", sum := "f118ad1457335066cea39cf6b19f95be1ee95856a4e71611f760e165985584e7", func := "musterfield/mustlaw.MarkSays", spec := "markSays", apart := false }
def MarkSaysSaid : Prop := markSaysRow.holds Try.pinned (OpenSpec.ofChange markSaysSpec)

/-- ITS FALSE NEIGHBOUR: 'it returns false'. Refute it at one input. -/
def markSaysWrong : ChangeSpec := { name := "markSays", fn := fun _ => fun
  | [d1, d2, d3, d4] => { results := [.lit (.bool false)], args := [d1, d2, d3, d4] }
  | _ => none }
def MarkSaysWrongFalsely : Prop := markSaysRow.holds Try.pinned (OpenSpec.ofChange markSaysWrong)

/-- 'mustlaw.CrcSays': WHATEVER THE INPUT: true; the input reads as it did. -/
def crcSaysSpec : ChangeSpec := { name := "crcSays", fn := fun _ => fun
  | [d1, d2] => { results := [.lit (.bool true)], args := [d1, d2] }
  | _ => none }
def crcSaysRow : OpenClaim := { program := "ytemogefcbemjfaa", sum := "f118ad1457335066cea39cf6b19f95be1ee95856a4e71611f760e165985584e7", func := "musterfield/mustlaw.CrcSays", spec := "crcSays", apart := false }
def CrcSaysSaid : Prop := crcSaysRow.holds Try.pinned (OpenSpec.ofChange crcSaysSpec)

/-- ITS FALSE NEIGHBOUR: 'it returns false'. Refute it at one input. -/
def crcSaysWrong : ChangeSpec := { name := "crcSays", fn := fun _ => fun
  | [d1, d2] => { results := [.lit (.bool false)], args := [d1, d2] }
  | _ => none }
def CrcSaysWrongFalsely : Prop := crcSaysRow.holds Try.pinned (OpenSpec.ofChange crcSaysWrong)

/-- 'mustlaw.CrcJoins': WHATEVER THE INPUT: true; the input reads as it did. -/
def crcJoinsSpec : ChangeSpec := { name := "crcJoins", fn := fun _ => fun
  | [d1, d2, d3] => { results := [.lit (.bool true)], args := [d1, d2, d3] }
  | _ => none }
def crcJoinsRow : OpenClaim := { program := "ytemogefcbemjfaa", sum := "f118ad1457335066cea39cf6b19f95be1ee95856a4e71611f760e165985584e7", func := "musterfield/mustlaw.CrcJoins", spec := "crcJoins", apart := false }
def CrcJoinsSaid : Prop := crcJoinsRow.holds Try.pinned (OpenSpec.ofChange crcJoinsSpec)

/-- ITS FALSE NEIGHBOUR: 'it returns false'. Refute it at one input. -/
def crcJoinsWrong : ChangeSpec := { name := "crcJoins", fn := fun _ => fun
  | [d1, d2, d3] => { results := [.lit (.bool false)], args := [d1, d2, d3] }
  | _ => none }
def CrcJoinsWrongFalsely : Prop := crcJoinsRow.holds Try.pinned (OpenSpec.ofChange crcJoinsWrong)

/-- 'mustlaw.FixSays': WHATEVER THE INPUT: true; the input reads as it did. -/
def fixSaysSpec : ChangeSpec := { name := "fixSays", fn := fun _ => fun
  | [d1, d2] => { results := [.lit (.bool true)], args := [d1, d2] }
  | _ => none }
def fixSaysRow : OpenClaim := { program := "ytemogefcbemjfaa", sum := "f118ad1457335066cea39cf6b19f95be1ee95856a4e71611f760e165985584e7", func := "musterfield/mustlaw.FixSays", spec := "fixSays", apart := false }
def FixSaysSaid : Prop := fixSaysRow.holds Try.pinned (OpenSpec.ofChange fixSaysSpec)

/-- ITS FALSE NEIGHBOUR: 'it returns false'. Refute it at one input. -/
def fixSaysWrong : ChangeSpec := { name := "fixSays", fn := fun _ => fun
  | [d1, d2] => { results := [.lit (.bool false)], args := [d1, d2] }
  | _ => none }
def FixSaysWrongFalsely : Prop := fixSaysRow.holds Try.pinned (OpenSpec.ofChange fixSaysWrong)

/-- 'mustlaw.LuckSays': WHATEVER THE INPUT: true; the input reads as it did. -/
def luckSaysSpec : ChangeSpec := { name := "luckSays", fn := fun _ => fun
  | [d1, d2] => { results := [.lit (.bool true)], args := [d1, d2] }
  | _ => none }
def luckSaysRow : OpenClaim := { program := "ytemogefcbemjfaa", sum := "f118ad1457335066cea39cf6b19f95be1ee95856a4e71611f760e165985584e7", func := "musterfield/mustlaw.LuckSays", spec := "luckSays", recurses := true, apart := false }
def LuckSaysSaid : Prop := luckSaysRow.holds Try.pinned (OpenSpec.ofChange luckSaysSpec)

/-- ITS FALSE NEIGHBOUR: 'it returns false'. Refute it at one input. -/
def luckSaysWrong : ChangeSpec := { name := "luckSays", fn := fun _ => fun
  | [d1, d2] => { results := [.lit (.bool false)], args := [d1, d2] }
  | _ => none }
def LuckSaysWrongFalsely : Prop := luckSaysRow.holds Try.pinned (OpenSpec.ofChange luckSaysWrong)

/-- 'mustlaw.SynodVows': WHATEVER THE INPUT: true; the input reads as it did. -/
def synodVowsSpec : ChangeSpec := { name := "synodVows", fn := fun _ => fun
  | [d1, d2, d3, d4, d5] => { results := [.lit (.bool true)], args := [d1, d2, d3, d4, d5] }
  | _ => none }
def synodVowsRow : OpenClaim := { program := "ytemogefcbemjfaa", sum := "f118ad1457335066cea39cf6b19f95be1ee95856a4e71611f760e165985584e7", func := "musterfield/mustlaw.SynodVows", spec := "synodVows", apart := false }
def SynodVowsSaid : Prop := synodVowsRow.holds Try.pinned (OpenSpec.ofChange synodVowsSpec)

/-- ITS FALSE NEIGHBOUR: 'it returns false'. Refute it at one input. -/
def synodVowsWrong : ChangeSpec := { name := "synodVows", fn := fun _ => fun
  | [d1, d2, d3, d4, d5] => { results := [.lit (.bool false)], args := [d1, d2, d3, d4, d5] }
  | _ => none }
def SynodVowsWrongFalsely : Prop := synodVowsRow.holds Try.pinned (OpenSpec.ofChange synodVowsWrong)

/-- 'mustlaw.LineSays': WHATEVER THE INPUT: true; the input reads as it did. -/
def lineSaysSpec : ChangeSpec := { name := "lineSays", fn := fun _ => fun
  | [d1, d2] => { results := [.lit (.bool true)], args := [d1, d2] }
  | _ => none }
def lineSaysRow : OpenClaim := { program := "ytemogefcbemjfaa", sum := "f118ad1457335066cea39cf6b19f95be1ee95856a4e71611f760e165985584e7", func := "musterfield/mustlaw.LineSays", spec := "lineSays", apart := false }
def LineSaysSaid : Prop := lineSaysRow.holds Try.pinned (OpenSpec.ofChange lineSaysSpec)

/-- ITS FALSE NEIGHBOUR: 'it returns false'. Refute it at one input. -/
def lineSaysWrong : ChangeSpec := { name := "lineSays", fn := fun _ => fun
  | [d1, d2] => { results := [.lit (.bool false)], args := [d1, d2] }
  | _ => none }
def LineSaysWrongFalsely : Prop := lineSaysRow.holds Try.pinned (OpenSpec.ofChange lineSaysWrong)

/-- 'mustlaw.PackSays': WHATEVER THE INPUT: true; the input reads as it did. -/
def packSaysSpec : ChangeSpec := { name := "packSays", fn := fun _ => fun
  | [d1, d2, d3, d4] => { results := [.lit (.bool true)], args := [d1, d2, d3, d4] }
  | _ => none }
def packSaysRow : OpenClaim := { program := "ytemogefcbemjfaa", sum := "f118ad1457335066cea39cf6b19f95be1ee95856a4e71611f760e165985584e7", func := "musterfield/mustlaw.PackSays", spec := "packSays", inPlace := ["internal/abi.NoEscape"], recurses := true, apart := false }
def PackSaysSaid : Prop := packSaysRow.holds Try.pinned (OpenSpec.ofChange packSaysSpec)

/-- ITS FALSE NEIGHBOUR: 'it returns false'. Refute it at one input. -/
def packSaysWrong : ChangeSpec := { name := "packSays", fn := fun _ => fun
  | [d1, d2, d3, d4] => { results := [.lit (.bool false)], args := [d1, d2, d3, d4] }
  | _ => none }
def PackSaysWrongFalsely : Prop := packSaysRow.holds Try.pinned (OpenSpec.ofChange packSaysWrong)

/-- 'mustlaw.TreeRoots': WHATEVER THE INPUT: true; the input reads as it did. -/
def treeRootsSpec : ChangeSpec := { name := "treeRoots", fn := fun _ => fun
  | [d1, d2, d3, d4] => { results := [.lit (.bool true)], args := [d1, d2, d3, d4] }
  | _ => none }
def treeRootsRow : OpenClaim := { program := "ytemogefcbemjfaa", sum := "f118ad1457335066cea39cf6b19f95be1ee95856a4e71611f760e165985584e7", func := "musterfield/mustlaw.TreeRoots", spec := "treeRoots", recurses := true, apart := false }
def TreeRootsSaid : Prop := treeRootsRow.holds Try.pinned (OpenSpec.ofChange treeRootsSpec)

/-- ITS FALSE NEIGHBOUR: 'it returns false'. Refute it at one input. -/
def treeRootsWrong : ChangeSpec := { name := "treeRoots", fn := fun _ => fun
  | [d1, d2, d3, d4] => { results := [.lit (.bool false)], args := [d1, d2, d3, d4] }
  | _ => none }
def TreeRootsWrongFalsely : Prop := treeRootsRow.holds Try.pinned (OpenSpec.ofChange treeRootsWrong)

/- THE SECOND FORM. 'bulk': how many values and letters a reading holds, each counted each time it is reached (what is shared counts as often as it is met; a slice's spare places count too). A statement '..UptoSaid' is the law's where the arguments, and the package variables that the reading takes, are together of bulk at most 1048576: NARROWER than '..Said'. Prove '..Said' where nothing that the law and all that it calls make is longer than what came in: it says more and counts as full. Else prove '..UptoSaid'. A law counts once. -/
mutual
def uptoBulk {H : Type} : DataW H → Nat
  | .lit (.string bytes) => bytes.length + 1
  | .lit _ => 1
  | .nil => 1
  | .ptr d => uptoBulk d + 1
  | .slice elems spare => uptoBulkAll elems + uptoBulkAll spare + 1
  | .agg parts => uptoBulkAll parts + 1
  | .iface _ d => uptoBulk d + 1
  | .map entries => uptoBulkEntries entries + 1
  | .held _ => 1
def uptoBulkAll {H : Type} : List (DataW H) → Nat
  | [] => 0
  | d :: r => uptoBulk d + uptoBulkAll r
def uptoBulkEntries {H : Type} : List (Lit × DataW H) → Nat
  | [] => 0
  | x :: r => uptoBulkEntry x + uptoBulkEntries r
def uptoBulkEntry {H : Type} : Lit × DataW H → Nat
  | (.string bytes, d) => bytes.length + uptoBulk d + 1
  | (_, d) => uptoBulk d + 1
 end
def uptoSmall : (H : Type) → List (DataW H) → Bool := fun _ ds => decide (uptoBulkAll ds ≤ 1048576)
def OpenSpec.upto (s : _root_.Go.ChangeSpec) : _root_.Go.OpenSpec := { _root_.Go.OpenSpec.ofChange s with cond := some uptoSmall }

/-- 'mustlaw.Names', WHERE WHAT IT READS IS OF BULK AT MOST 1048576: true; the input reads as it did. -/
def namesUptoRow : OpenClaim := { program := "ytemogefcbemjfaa", sum := "f118ad1457335066cea39cf6b19f95be1ee95856a4e71611f760e165985584e7", func := "musterfield/mustlaw.Names", spec := "names", apart := false, narrowed := true }
def NamesUptoSaid : Prop := namesUptoRow.holds Try.pinned (OpenSpec.upto namesSpec)

/-- 'mustlaw.MarkSays', WHERE WHAT IT READS IS OF BULK AT MOST 1048576: true; the input reads as it did. -/
def markSaysUptoRow : OpenClaim := { program := "ytemogefcbemjfaa", sum := "f118ad1457335066cea39cf6b19f95be1ee95856a4e71611f760e165985584e7", func := "musterfield/mustlaw.MarkSays", spec := "markSays", apart := false, narrowed := true }
def MarkSaysUptoSaid : Prop := markSaysUptoRow.holds Try.pinned (OpenSpec.upto markSaysSpec)

/-- 'mustlaw.CrcSays', WHERE WHAT IT READS IS OF BULK AT MOST 1048576: true; the input reads as it did. -/
def crcSaysUptoRow : OpenClaim := { program := "ytemogefcbemjfaa", sum := "f118ad1457335066cea39cf6b19f95be1ee95856a4e71611f760e165985584e7", func := "musterfield/mustlaw.CrcSays", spec := "crcSays", apart := false, narrowed := true }
def CrcSaysUptoSaid : Prop := crcSaysUptoRow.holds Try.pinned (OpenSpec.upto crcSaysSpec)

/-- 'mustlaw.CrcJoins', WHERE WHAT IT READS IS OF BULK AT MOST 1048576: true; the input reads as it did. -/
def crcJoinsUptoRow : OpenClaim := { program := "ytemogefcbemjfaa", sum := "f118ad1457335066cea39cf6b19f95be1ee95856a4e71611f760e165985584e7", func := "musterfield/mustlaw.CrcJoins", spec := "crcJoins", apart := false, narrowed := true }
def CrcJoinsUptoSaid : Prop := crcJoinsUptoRow.holds Try.pinned (OpenSpec.upto crcJoinsSpec)

/-- 'mustlaw.FixSays', WHERE WHAT IT READS IS OF BULK AT MOST 1048576: true; the input reads as it did. -/
def fixSaysUptoRow : OpenClaim := { program := "ytemogefcbemjfaa", sum := "f118ad1457335066cea39cf6b19f95be1ee95856a4e71611f760e165985584e7", func := "musterfield/mustlaw.FixSays", spec := "fixSays", apart := false, narrowed := true }
def FixSaysUptoSaid : Prop := fixSaysUptoRow.holds Try.pinned (OpenSpec.upto fixSaysSpec)

/-- 'mustlaw.LuckSays', WHERE WHAT IT READS IS OF BULK AT MOST 1048576: true; the input reads as it did. -/
def luckSaysUptoRow : OpenClaim := { program := "ytemogefcbemjfaa", sum := "f118ad1457335066cea39cf6b19f95be1ee95856a4e71611f760e165985584e7", func := "musterfield/mustlaw.LuckSays", spec := "luckSays", recurses := true, apart := false, narrowed := true }
def LuckSaysUptoSaid : Prop := luckSaysUptoRow.holds Try.pinned (OpenSpec.upto luckSaysSpec)

/-- 'mustlaw.SynodVows', WHERE WHAT IT READS IS OF BULK AT MOST 1048576: true; the input reads as it did. -/
def synodVowsUptoRow : OpenClaim := { program := "ytemogefcbemjfaa", sum := "f118ad1457335066cea39cf6b19f95be1ee95856a4e71611f760e165985584e7", func := "musterfield/mustlaw.SynodVows", spec := "synodVows", apart := false, narrowed := true }
def SynodVowsUptoSaid : Prop := synodVowsUptoRow.holds Try.pinned (OpenSpec.upto synodVowsSpec)

/-- 'mustlaw.LineSays', WHERE WHAT IT READS IS OF BULK AT MOST 1048576: true; the input reads as it did. -/
def lineSaysUptoRow : OpenClaim := { program := "ytemogefcbemjfaa", sum := "f118ad1457335066cea39cf6b19f95be1ee95856a4e71611f760e165985584e7", func := "musterfield/mustlaw.LineSays", spec := "lineSays", apart := false, narrowed := true }
def LineSaysUptoSaid : Prop := lineSaysUptoRow.holds Try.pinned (OpenSpec.upto lineSaysSpec)

/-- 'mustlaw.PackSays', WHERE WHAT IT READS IS OF BULK AT MOST 1048576: true; the input reads as it did. -/
def packSaysUptoRow : OpenClaim := { program := "ytemogefcbemjfaa", sum := "f118ad1457335066cea39cf6b19f95be1ee95856a4e71611f760e165985584e7", func := "musterfield/mustlaw.PackSays", spec := "packSays", inPlace := ["internal/abi.NoEscape"], recurses := true, apart := false, narrowed := true }
def PackSaysUptoSaid : Prop := packSaysUptoRow.holds Try.pinned (OpenSpec.upto packSaysSpec)

/-- 'mustlaw.TreeRoots', WHERE WHAT IT READS IS OF BULK AT MOST 1048576: true; the input reads as it did. -/
def treeRootsUptoRow : OpenClaim := { program := "ytemogefcbemjfaa", sum := "f118ad1457335066cea39cf6b19f95be1ee95856a4e71611f760e165985584e7", func := "musterfield/mustlaw.TreeRoots", spec := "treeRoots", recurses := true, apart := false, narrowed := true }
def TreeRootsUptoSaid : Prop := treeRootsUptoRow.holds Try.pinned (OpenSpec.upto treeRootsSpec)

end Rows
end Go.Proofs.Ytemogefcbemjfaa
