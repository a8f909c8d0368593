/- What the second form's bound gives. -/
import Derived.Test.YtemogefcbemjfaaRows
import Derived.Test.YtemogefcbemjfaaOpen
import Derived.Deep.CondSized
namespace Go.Proofs.Ytemogefcbemjfaa
open Go.RowKit Go.ChangeShapes Go.WideShapes Go.ChangeAt
theorem bulk_part {H : Type} {d : DataW H} {l : List (DataW H)} (h : d ∈ l) : Rows.uptoBulk d ≤ Rows.uptoBulkAll l := by
  induction l with
  | nil => cases h
  | cons x r ih =>
    simp only [Rows.uptoBulkAll]
    cases List.mem_cons.1 h with
    | inl e => subst e; omega
    | inr e => have := ih e; omega
theorem str_small {P : Program} {w : World} {H : Type} {eH : TypeId × Value → H} {T : TypeId} {s : ByteArray} {d : DataW H} {p : List MemPlace} {l : List (DataW H)}
    (h : DataW.Trod eH P w 0 (fun _ => true) true T (.string s) d p) (hT : P.underlying T = some .string) (hk : Rows.uptoSmall H l = true) (hd : d ∈ l) : s.size ≤ 1048576 := by
  obtain ⟨fuel, hf⟩ := h
  obtain ⟨s', hs', hd', _⟩ := DataW.trod_string hT hf
  simp only [Prod.mk.injEq] at hd'
  obtain ⟨rfl, _⟩ := hd'
  have hb := bulk_part hd
  have hk' := of_decide_eq_true hk
  simp only [Value.cells, List.cons.injEq, Value.string.injEq, and_true] at hs'
  subst hs'
  have e : s.data.toList.length = s.size := Array.length_toList
  simp only [Rows.uptoBulk] at hb
  omega
end Go.Proofs.Ytemogefcbemjfaa
