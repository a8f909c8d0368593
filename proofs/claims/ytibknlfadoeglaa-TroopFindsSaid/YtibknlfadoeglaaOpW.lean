/- The program's worlds, opened. -/
import Derived.Test.YtibknlfadoeglaaOpD
import Derived.Test.YtibknlfadoeglaaTw
namespace Go.Proofs.Ytibknlfadoeglaa
set_option linter.all false
open Go.RowKit Go.ChangeShapes Go.WideShapes Go.ChangeAt
set_option maxRecDepth 100000
def wldP (w : Wld) : List PV := [pI w.f.w, pI w.f.h, .sl 1 (w.f.p.map i64P), .sl 2 (w.bases.map celP), .sl 1 (w.stocks.map i64P), .sl 1 (w.mines.map i64P), .sl 7 (w.troops.map trpP), pI w.next, pI w.now]
def trpG (t : Trp) : Prop := In64 t.id ∧ In64 t.owner ∧ In64 t.kind ∧ In64 t.c.x ∧ In64 t.c.y ∧ In64 t.life ∧ In64 t.load
def wldG (w : Wld) : Prop := wldL w ∧ In64 w.f.w ∧ In64 w.f.h ∧ (∀ x ∈ w.f.p, In64 x) ∧ (∀ x ∈ w.bases, In64 x.x ∧ In64 x.y) ∧ (∀ x ∈ w.stocks, In64 x) ∧ (∀ x ∈ w.mines, In64 x) ∧ (∀ x ∈ w.troops, trpG x) ∧ In64 w.next ∧ In64 w.now
theorem opTrp (w : World) : OpA Try.prog 91 7 w trpP trpG :=
  (OpA.struct Try.underlying91 (by kernel_rfl) (OpAF.cons rfl rfl (OpA.i64 Try.underlying3) (OpAF.cons rfl rfl (OpA.i64 Try.underlying3) (OpAF.cons rfl rfl (OpA.i64 Try.underlying3) (OpAF.cons rfl rfl (opCel w) (OpAF.cons rfl rfl (OpA.i64 Try.underlying3) (OpAF.cons rfl rfl (OpA.i64 Try.underlying3) OpAF.nil))))))).map (fun x => ⟨x.1, x.2.1, x.2.2.1, x.2.2.2.1, x.2.2.2.2.1, x.2.2.2.2.2.1⟩) (fun _ => rfl) (fun x h => ⟨h.1, h.2.1, h.2.2.1, h.2.2.2.1.1, h.2.2.2.1.2, h.2.2.2.2.1, h.2.2.2.2.2.1⟩)
theorem opCels (w : World) : OpA Try.prog 43 1 w (fun xs : List Cel => [.sl 2 (xs.map celP)]) (fun xs => (∀ x ∈ xs, In64 x.x ∧ In64 x.y) ∧ xs.length * 16 ≤ 140737488351232 ∧ xs.length ≤ 9223372036854775807) :=
  OpA.slice Try.underlying43 (by kernel_rfl) (by decide) (by kernel_rfl) (opCel w)
theorem opTrps (w : World) : OpA Try.prog 84 1 w (fun xs : List Trp => [.sl 7 (xs.map trpP)]) (fun xs => (∀ x ∈ xs, trpG x) ∧ xs.length * 56 ≤ 140737488351232 ∧ xs.length ≤ 9223372036854775807) :=
  OpA.slice Try.underlying84 (by kernel_rfl) (by decide) (by kernel_rfl) (opTrp w)
theorem opWld (w : World) : OpA Try.prog 86 9 w wldP wldG :=
  (OpA.struct Try.underlying86 (by kernel_rfl) (OpAF.cons rfl rfl (opFld w) (OpAF.cons rfl rfl (opCels w) (OpAF.cons rfl rfl (opInts w) (OpAF.cons rfl rfl (opInts w) (OpAF.cons rfl rfl (opTrps w) (OpAF.cons rfl rfl (OpA.i64 Try.underlying3) (OpAF.cons rfl rfl (OpA.i64 Try.underlying3) OpAF.nil)))))))).map (fun x => ⟨x.1, x.2.1, x.2.2.1, x.2.2.2.1, x.2.2.2.2.1, x.2.2.2.2.2.1, x.2.2.2.2.2.2.1⟩) (fun _ => rfl)
    (fun x h => ⟨⟨h.1.2.2.2.2, h.2.1.2.2, h.2.2.1.2.2, h.2.2.2.1.2.2, h.2.2.2.2.1.2.2⟩, h.1.1, h.1.2.1, h.1.2.2.1, h.2.1.1, h.2.2.1.1, h.2.2.2.1.1, h.2.2.2.2.1.1, h.2.2.2.2.2.1, h.2.2.2.2.2.2.1⟩)
end Go.Proofs.Ytibknlfadoeglaa
