/- Arguments that came in, opened by their type: one law a shape, over any program. -/
import Derived.Test.YtibknlfadoeglaaBase
import Derived.ProofKit
import Derived.OpenShut
import Derived.ShutString
import Derived.ChangeOld
import Derived.Below
import Derived.Deep.Slices
namespace Go.Proofs.Ytibknlfadoeglaa
set_option linter.all false
open Go.RowKit Go.ChangeShapes Go.WideShapes Go.ChangeAt

/-- Whatever is read at type T lies as the cells enc x of some x that is ok. -/
def Opens (P : Program) (T sz : Nat) (w : World) {α : Type} (enc : α → List Value) (ok : α → Prop) : Prop :=
  ∀ (H : Type) (eH : TypeId × Value → H) (fuel : Nat) (cs : List Value) (y : DataW H × List MemPlace), DataW.trod eH P w 0 (fun _ => true) true fuel T cs = some y → (∀ n ∈ y.1.weights P T, n ≤ reachBytes) → ∃ x : α, cs = enc x ∧ cs.length = sz ∧ ok x

theorem Opens.int {P : Program} {T : Nat} {w : World} {k : IntKind} (h : P.underlying T = some (.int k)) : Opens P T 1 w (fun n : Int => [.int k n]) (fun n => (Lit.int k n).wf = true) := by
  intro H eH fuel cs y hy _
  obtain ⟨n, rfl, _, hw⟩ := DataW.trod_int h hy
  exact ⟨n, rfl, rfl, hw⟩
theorem wf_i64' {n : Int} (h : (Lit.int .i64 n).wf = true) : -9223372036854775808 ≤ n ∧ n ≤ 9223372036854775807 := by
  simpa [Lit.wf, IntKind.min, IntKind.max, IntKind.signed, IntKind.bits] using h
theorem wf_u64' {n : Int} (h : (Lit.int .u64 n).wf = true) : 0 ≤ n ∧ n ≤ 18446744073709551615 := by
  simpa [Lit.wf, IntKind.min, IntKind.max, IntKind.signed, IntKind.bits] using h
theorem wf_u32' {n : Int} (h : (Lit.int .u32 n).wf = true) : 0 ≤ n ∧ n ≤ 4294967295 := by
  simpa [Lit.wf, IntKind.min, IntKind.max, IntKind.signed, IntKind.bits] using h
theorem Opens.i64 {P : Program} {T : Nat} {w : World} (h : P.underlying T = some (.int .i64)) : Opens P T 1 w ei64 (fun n => -9223372036854775808 ≤ n ∧ n ≤ 9223372036854775807) := by
  intro H eH fuel cs y hy _
  obtain ⟨n, rfl, _, hw⟩ := DataW.trod_int h hy
  exact ⟨n, rfl, rfl, wf_i64' hw⟩
theorem Opens.u64 {P : Program} {T : Nat} {w : World} (h : P.underlying T = some (.int .u64)) : Opens P T 1 w e64 (fun n => n < 18446744073709551616) := by
  intro H eH fuel cs y hy _
  obtain ⟨n, rfl, _, hw⟩ := DataW.trod_int h hy
  have := wf_u64' hw
  exact ⟨n.toNat, by simp only [e64]; congr 2; omega, rfl, by omega⟩
theorem Opens.u32 {P : Program} {T : Nat} {w : World} (h : P.underlying T = some (.int .u32)) : Opens P T 1 w e32 (fun n => n < 4294967296) := by
  intro H eH fuel cs y hy _
  obtain ⟨n, rfl, _, hw⟩ := DataW.trod_int h hy
  have := wf_u32' hw
  exact ⟨n.toNat, by simp only [e32]; congr 2; omega, rfl, by omega⟩
def eBool (b : Bool) : List Value := [.bool b]
theorem Opens.bool {P : Program} {T : Nat} {w : World} (h : P.underlying T = some .bool) : Opens P T 1 w eBool (fun _ => True) := by
  intro H eH fuel cs y hy _
  obtain ⟨b, rfl, _⟩ := DataW.trod_bool h hy
  exact ⟨b, rfl, rfl, trivial⟩
def eStr (s : ByteArray) : List Value := [.string s]
theorem Opens.str {P : Program} {T : Nat} {w : World} (h : P.underlying T = some .string) : Opens P T 1 w eStr (fun s => s.size ≤ 140737488351232) := by
  intro H eH fuel cs y hy hw
  obtain ⟨s, rfl, rfl, hs⟩ := DataW.trod_string h hy
  exact ⟨s, rfl, rfl, (by
    have h := hw s.data.toList.length (List.mem_singleton.2 rfl)
    have e : s.data.toList.length = s.size := Array.length_toList
    rw [e] at h
    exact h)⟩

/-- A slice as a value: its address, capacity, elements. -/
structure SL (α : Type) where
  a : Option Addr
  c : Nat
  xs : List α
def SL.val {α : Type} (s : SL α) : Value := .slice s.a s.xs.length s.c
def SL.enc {α : Type} (s : SL α) : List Value := [s.val]
structure SLok {α : Type} (w : World) (B : Nat) (sz bts : Nat) (enc : α → List Value) (ok : α → Prop) (s : SL α) : Prop where
  els : Els w B s.a sz enc s.xs
  each : ∀ x ∈ s.xs, ok x ∧ (enc x).length = sz
  cap : s.xs.length ≤ s.c
  max : s.c ≤ maxLen
  reach : s.c * bts ≤ 140737488351232
  nil : s.a = none → s.xs.length = 0 ∧ s.c = 0

theorem SLok.below {α : Type} {w w' : World} {B B' sz bts : Nat} {enc : α → List Value} {ok : α → Prop} {s : SL α} (h : SLok w B sz bts enc ok s) (hb : Below B' w w') (hB : B ≤ B') : SLok w' B sz bts enc ok s :=
  ⟨h.els.below hb hB, h.each, h.cap, h.max, h.reach, h.nil⟩

theorem Opens.slice {P : Program} {T E sz bts : Nat} {w : World} {α : Type} {enc : α → List Value} {ok : α → Prop} (hT : P.underlying T = some (.slice E)) (hc : P.cellsOf E = sz) (hsz : 0 < sz) (hby : P.bytesOf E = bts) (hE : Opens P E sz w enc ok) :
    Opens P T 1 w (SL.enc (α := α)) (SLok w w.heap.size sz bts enc ok) := by
  intro H eH fuel cs y hy hw
  rcases Deep.open_slice hT hy with ⟨rfl, _⟩ | ⟨a, len, cap, m, n, D, Pl, rfl, _, hl, hm, hmm, hy2, hx⟩
  · exact ⟨⟨none, 0, []⟩, rfl, rfl, ⟨.inl rfl, by simp, Nat.le_refl _, Nat.zero_le _, by simp, fun _ => ⟨rfl, rfl⟩⟩⟩
  · simp only [if_true] at hmm
    subst hmm
    subst hy2
    have hreach : m * bts ≤ 140737488351232 := by
      have h := hw ((len + (m - len)) * P.bytesOf E) (by simp [DataW.weights, hT])
      rw [show len + (m - len) = m from by omega, hby] at h
      exact h
    have hwe : ∀ i, i < len → ∀ k ∈ (D i).weights P E, k ≤ reachBytes := by
      intro i hi k hk
      refine hw k ?_
      simp only [DataW.weights, hT, List.mem_cons, List.mem_append]
      refine .inr (.inl ?_)
      have key : ∀ (l : List (DataW H)), D i ∈ l → k ∈ DataW.weightsAll P E l := by
        intro l
        induction l with
        | nil => intro h; simp at h
        | cons d l ih =>
          intro h
          simp only [DataW.weightsAll, List.mem_append]
          rcases List.mem_cons.1 h with rfl | h
          · exact .inl hk
          · exact .inr (ih h)
      exact key _ (List.mem_map.2 ⟨i, List.mem_range.2 hi, rfl⟩)
    have hx2 : ∀ i, i < len → ∃ x : α, ok x ∧ (enc x).length = sz ∧ ∀ j, j < sz → w.cell? ((a.add (i * sz)).add j) = (enc x)[j]? := by
      intro i hi
      obtain ⟨cs', h1, h2⟩ := hx i (by omega)
      obtain ⟨x, rfl, hlen, hok⟩ := hE H eH n cs' _ h2 (hwe i hi)
      obtain ⟨_, _, h3⟩ := World.cells?_some h1
      rw [hc] at h3
      exact ⟨x, hok, hlen, h3⟩
    by_cases h0 : len = 0
    · subst h0
      exact ⟨⟨some a, m, []⟩, rfl, rfl, ⟨.inl rfl, by simp, Nat.zero_le _, hm, hreach, fun h => by simp at h⟩⟩
    · obtain ⟨x0, _⟩ := hx2 0 (by omega)
      have : Inhabited α := ⟨x0⟩
      obtain ⟨f, hf⟩ := Deep.choose_lt (p := fun i x => ok x ∧ (enc x).length = sz ∧ ∀ j, j < sz → w.cell? ((a.add (i * sz)).add j) = (enc x)[j]?) hx2
      have hlen : ((List.range len).map f).length = len := by simp
      refine ⟨⟨some a, m, (List.range len).map f⟩, by simp [SL.enc, SL.val], rfl, ⟨?_, ?_, by simpa using hl, hm, hreach, fun h => by simp at h⟩⟩
      · obtain ⟨_, hl0, hc0⟩ := hf 0 (by omega)
        have hcell := hc0 0 hsz
        rw [List.getElem?_eq_getElem (by omega)] at hcell
        simp only [Nat.zero_mul] at hcell
        have hadd0 : ((a.add 0).add 0) = a := by simp [Addr.add]
        rw [hadd0] at hcell
        have hsp := World.cell?_spot hcell
        have hlt := World.block_lt_of_cell? w a hcell
        obtain ⟨b, o, sp⟩ := a
        simp only at hsp
        subst hsp
        refine .inr ⟨b, o, rfl, hlt, fun i j v hv => ?_⟩
        cases hxi : ((List.range len).map f)[i]? with
        | none => rw [hxi] at hv; simp at hv
        | some x =>
          rw [hxi] at hv
          have hi : i < len := by have := (List.getElem?_eq_some_iff.1 hxi).1; simpa using this
          have hfx : f i = x := by simpa [hi] using hxi
          obtain ⟨_, hl1, hc1⟩ := hf i hi
          have hj : j < sz := by
            have hv' : (enc x)[j]? = some v := by simpa using hv
            have := (List.getElem?_eq_some_iff.1 hv').1
            rw [← hfx, hl1] at this; exact this
          have := hc1 j hj
          rw [hfx] at this
          rw [Deep.add_add, Addr.add_lit] at this
          rw [this]; simpa using hv
      · intro x hx
        simp only [List.mem_map, List.mem_range] at hx
        obtain ⟨i, hi, rfl⟩ := hx
        obtain ⟨h1, h2, _⟩ := hf i hi
        exact ⟨h1, h2⟩

theorem Opens.map {P : Program} {T sz : Nat} {w : World} {α β : Type} {enc : α → List Value} {ok : α → Prop} {enc' : β → List Value} {ok' : β → Prop} (h : Opens P T sz w enc ok) (f : α → β) (hf : ∀ x, enc' (f x) = enc x) (hok : ∀ x, ok x → ok' (f x)) : Opens P T sz w enc' ok' := by
  intro H eH fuel cs y hy hw
  obtain ⟨x, rfl, hl, ho⟩ := h H eH fuel cs y hy hw
  exact ⟨f x, (hf x).symm, hl, hok x ho⟩

/-- The fields of a struct, one behind the other from cell o on. -/
def OpensF (P : Program) (w : World) (fs : List Field) (o sz : Nat) {α : Type} (enc : α → List Value) (ok : α → Prop) : Prop :=
  ∀ (H : Type) (eH : TypeId × Value → H) (fuel : Nat) (cs : List Value), cs.length = o + sz →
    (∀ f ∈ fs, ∃ y, DataW.trod eH P w 0 (fun _ => true) true fuel f.type ((cs.drop f.offset).take (P.cellsOf f.type)) = some y ∧ ∀ n ∈ y.1.weights P f.type, n ≤ reachBytes) → ∃ x : α, cs.drop o = enc x ∧ ok x
theorem OpensF.nil {P : Program} {w : World} {o : Nat} : OpensF P w [] o 0 (fun _ : Unit => []) (fun _ => True) := by
  intro H eH fuel cs hl _
  exact ⟨(), List.drop_eq_nil_of_le (by omega), trivial⟩
theorem OpensF.cons {P : Program} {w : World} {f : Field} {fs : List Field} {o n sz : Nat} {α β : Type} {enc : α → List Value} {ok : α → Prop} {enc' : β → List Value} {ok' : β → Prop}
    (ho : f.offset = o) (hn : P.cellsOf f.type = n) (h : Opens P f.type n w enc ok) (h' : OpensF P w fs (o + n) sz enc' ok') :
    OpensF P w (f :: fs) o (n + sz) (fun x : α × β => enc x.1 ++ enc' x.2) (fun x => ok x.1 ∧ ok' x.2) := by
  intro H eH fuel cs hl hall
  obtain ⟨y, hy, hw⟩ := hall f (by simp)
  rw [ho, hn] at hy
  obtain ⟨x, hx, _, hok⟩ := h H eH fuel _ y hy hw
  obtain ⟨x', hx', hok'⟩ := h' H eH fuel cs (by omega) (fun g hg => hall g (by simp [hg]))
  refine ⟨(x, x'), ?_, hok, hok'⟩
  show cs.drop o = enc x ++ enc' x'
  rw [← hx, ← hx', ← List.drop_drop, List.take_append_drop]
theorem Opens.struct {P : Program} {T sz : Nat} {w : World} {fs : Array Field} {α : Type} {enc : α → List Value} {ok : α → Prop} (hT : P.underlying T = some (.struct fs)) (hc : P.cellsOf T = sz) (h : OpensF P w fs.toList 0 sz enc ok) :
    Opens P T sz w enc ok := by
  intro H eH fuel cs y hy hw
  obtain ⟨xs, n, _, rfl, hl, hlen, hfs⟩ := DataW.trod_struct hT hy
  obtain ⟨x, hx, hok⟩ := h H eH n cs (by omega) (fun f hf => by
    obtain ⟨i, hi, he⟩ := List.getElem_of_mem hf
    have hi' : i < fs.size := by simpa using hi
    have hfi : fs[i]? = some f := by rw [Array.getElem?_eq_getElem hi']; simpa using he
    have := hfs i f hfi
    have hx : xs[i]? = some (xs[i]'(by omega)) := List.getElem?_eq_getElem (by omega)
    rw [hx] at this
    refine ⟨_, this, fun k hk => hw k ?_⟩
    simp only [DataW.weights, hT]
    refine DataW.weights_mem_each (j := i) (t := f.type) ?_ ?_ k hk
    · rw [List.getElem?_map, Array.getElem?_toList, hfi]; rfl
    · rw [List.getElem?_map, hx]; rfl)
  exact ⟨x, by simpa using hx, by omega, hok⟩

theorem Opens.arg {P : Program} {T sz : Nat} {w : World} {α : Type} {enc : α → List Value} {ok : α → Prop} (h : Opens P T sz w enc ok) {H : Type} {eH : TypeId × Value → H} {v : Value} {d : DataW H} {p : List MemPlace}
    (hT : DataW.Trod eH P w 0 (fun _ => true) true T v d p) {ts : List TypeId} {ds : List (DataW H)} (hz : (DataW.weightsEach P ts ds).all (· ≤ reachBytes) = true) (j : Nat) (h1 : ts[j]? = some T) (h2 : ds[j]? = some d) : ∃ x : α, v.cells.toList = enc x ∧ ok x := by
  obtain ⟨fuel, hf⟩ := hT
  obtain ⟨x, h1, _, h2⟩ := h H eH fuel _ _ hf (fun n hn => by
    have := List.all_eq_true.1 hz n (DataW.weights_mem_each h1 h2 n hn)
    simpa using this)
  exact ⟨x, h1, h2⟩
theorem arg_struct {P : Program} {w : World} {base t : Nat} {v : Value} {cs : List Value} {fs : Array Field} (h : Value.okWide P w .any base t v) (hs : P.underlying t = some (.struct fs)) (hc : v.cells.toList = cs) : v = .agg cs.toArray := by
  simp only [Value.okWide, hs] at h
  obtain ⟨cs', rfl, _⟩ := h
  subst hc
  simp [Value.cells]
theorem arg_slice {P : Program} {w : World} {base t e : Nat} {v u : Value} (ht : P.underlying t = some (.slice e)) (h : Value.okWide P w .any base t v) (hc : v.cells.toList = [u]) : v = u := by
  obtain ⟨a, l, c, rfl⟩ := okWide_slice ht h
  simpa [Value.cells] using hc
theorem arg_int {P : Program} {w : World} {base t : Nat} {k : IntKind} {v u : Value} (ht : P.underlying t = some (.int k)) (h : Value.okWide P w .any base t v) (hc : v.cells.toList = [u]) : v = u := by
  obtain ⟨n, rfl⟩ := okWide_int ht h
  simpa [Value.cells] using hc
theorem arg_str {P : Program} {w : World} {base t : Nat} {v u : Value} (ht : P.underlying t = some .string) (h : Value.okWide P w .any base t v) (hc : v.cells.toList = [u]) : v = u := by
  obtain ⟨n, rfl⟩ := okWide_string ht h
  simpa [Value.cells] using hc
theorem arg_bool {P : Program} {w : World} {base t : Nat} {v u : Value} (ht : P.underlying t = some .bool) (h : Value.okWide P w .any base t v) (hc : v.cells.toList = [u]) : v = u := by
  obtain ⟨n, rfl⟩ := okWide_bool ht h
  simpa [Value.cells] using hc
end Go.Proofs.Ytibknlfadoeglaa
