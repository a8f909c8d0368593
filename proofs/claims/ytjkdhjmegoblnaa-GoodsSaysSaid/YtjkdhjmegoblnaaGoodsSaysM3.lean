/- Lemmas for the proof of goodsSays.proved. -/
import Derived.Test.YtjkdhjmegoblnaaGoodsSaysM2
import Derived.ProofKit
import Derived.OpenShut
import Derived.ShutString
import Derived.ChangeOld
import Derived.Below
import Derived.Deep.Slices
import Derived.Test.YtjkdhjmegoblnaaProg
import Derived.KernelRfl
namespace Go.Proofs.Ytjkdhjmegoblnaa
set_option linter.all false
open Go.RowKit Go.ChangeShapes Go.WideShapes Go.ChangeAt
def Opens (P : Program) (T sz : Nat) (w : World) {α : Type} (enc : α → List Value) (ok : α → Prop) : Prop :=
  ∀ (H : Type) (eH : TypeId × Value → H) (fuel : Nat) (cs : List Value) (y : DataW H × List MemPlace), DataW.trod eH P w 0 (fun _ => true) true fuel T cs = some y → (∀ n ∈ y.1.weights P T, n ≤ reachBytes) → ∃ x : α, cs = enc x ∧ cs.length = sz ∧ ok x
theorem Opens.int {P : Program} {T : Nat} {w : World} {k : IntKind} (h : P.underlying T = some (.int k)) : Opens P T 1 w (fun n : Int => [.int k n]) (fun n => (Lit.int k n).wf = true) := by
  intro H eH fuel cs y hy _
  obtain ⟨n, rfl, _, hw⟩ := DataW.trod_int h hy
  exact ⟨n, rfl, rfl, hw⟩
theorem wf_i64' {n : Int} (h : (Lit.int .i64 n).wf = true) : -9223372036854775808 ≤ n ∧ n ≤ 9223372036854775807 := by
  simpa [Lit.wf, IntKind.min, IntKind.max, IntKind.signed, IntKind.bits] using h
theorem wf_u64' {n : Int} (h : (Lit.int .u64 n).wf = true) : 0 ≤ n ∧ n ≤ 18446744073709551615 := by
  simpa [Lit.wf, IntKind.min, IntKind.max, IntKind.signed, IntKind.bits] using h
theorem wf_u32' {n : Int} (h : (Lit.int .u32 n).wf = true) : 0 ≤ n ∧ n ≤ 4294967295 := by
  simpa [Lit.wf, IntKind.min, IntKind.max, IntKind.signed, IntKind.bits] using h
theorem Opens.i64 {P : Program} {T : Nat} {w : World} (h : P.underlying T = some (.int .i64)) : Opens P T 1 w ei64 (fun n => -9223372036854775808 ≤ n ∧ n ≤ 9223372036854775807) := by
  intro H eH fuel cs y hy _
  obtain ⟨n, rfl, _, hw⟩ := DataW.trod_int h hy
  exact ⟨n, rfl, rfl, wf_i64' hw⟩
theorem Opens.u64 {P : Program} {T : Nat} {w : World} (h : P.underlying T = some (.int .u64)) : Opens P T 1 w e64 (fun n => n < 18446744073709551616) := by
  intro H eH fuel cs y hy _
  obtain ⟨n, rfl, _, hw⟩ := DataW.trod_int h hy
  have := wf_u64' hw
  exact ⟨n.toNat, by simp only [e64]; congr 2; omega, rfl, by omega⟩
theorem Opens.u32 {P : Program} {T : Nat} {w : World} (h : P.underlying T = some (.int .u32)) : Opens P T 1 w e32 (fun n => n < 4294967296) := by
  intro H eH fuel cs y hy _
  obtain ⟨n, rfl, _, hw⟩ := DataW.trod_int h hy
  have := wf_u32' hw
  exact ⟨n.toNat, by simp only [e32]; congr 2; omega, rfl, by omega⟩
def eBool (b : Bool) : List Value := [.bool b]
theorem Opens.bool {P : Program} {T : Nat} {w : World} (h : P.underlying T = some .bool) : Opens P T 1 w eBool (fun _ => True) := by
  intro H eH fuel cs y hy _
  obtain ⟨b, rfl, _⟩ := DataW.trod_bool h hy
  exact ⟨b, rfl, rfl, trivial⟩
def eStr (s : ByteArray) : List Value := [.string s]
theorem Opens.str {P : Program} {T : Nat} {w : World} (h : P.underlying T = some .string) : Opens P T 1 w eStr (fun s => s.size ≤ 140737488351232) := by
  intro H eH fuel cs y hy hw
  obtain ⟨s, rfl, rfl, hs⟩ := DataW.trod_string h hy
  exact ⟨s, rfl, rfl, (by
    have h := hw s.data.toList.length (List.mem_singleton.2 rfl)
    have e : s.data.toList.length = s.size := Array.length_toList
    rw [e] at h
    exact h)⟩
structure SL (α : Type) where
  a : Option Addr
  c : Nat
  xs : List α
def SL.val {α : Type} (s : SL α) : Value := .slice s.a s.xs.length s.c
def SL.enc {α : Type} (s : SL α) : List Value := [s.val]
structure SLok {α : Type} (w : World) (B : Nat) (sz bts : Nat) (enc : α → List Value) (ok : α → Prop) (s : SL α) : Prop where
  els : Els w B s.a sz enc s.xs
  each : ∀ x ∈ s.xs, ok x ∧ (enc x).length = sz
  cap : s.xs.length ≤ s.c
  max : s.c ≤ maxLen
  reach : s.c * bts ≤ 140737488351232
  nil : s.a = none → s.xs.length = 0 ∧ s.c = 0
theorem Opens.slice {P : Program} {T E sz bts : Nat} {w : World} {α : Type} {enc : α → List Value} {ok : α → Prop} (hT : P.underlying T = some (.slice E)) (hc : P.cellsOf E = sz) (hsz : 0 < sz) (hby : P.bytesOf E = bts) (hE : Opens P E sz w enc ok) :
    Opens P T 1 w (SL.enc (α := α)) (SLok w w.heap.size sz bts enc ok) := by
  intro H eH fuel cs y hy hw
  rcases Deep.open_slice hT hy with ⟨rfl, _⟩ | ⟨a, len, cap, m, n, D, Pl, rfl, _, hl, hm, hmm, hy2, hx⟩
  · exact ⟨⟨none, 0, []⟩, rfl, rfl, ⟨.inl rfl, by simp, Nat.le_refl _, Nat.zero_le _, by simp, fun _ => ⟨rfl, rfl⟩⟩⟩
  · simp only [if_true] at hmm
    subst hmm
    subst hy2
    have hreach : m * bts ≤ 140737488351232 := by
      have h := hw ((len + (m - len)) * P.bytesOf E) (by simp [DataW.weights, hT])
      rw [show len + (m - len) = m from by omega, hby] at h
      exact h
    have hwe : ∀ i, i < len → ∀ k ∈ (D i).weights P E, k ≤ reachBytes := by
      intro i hi k hk
      refine hw k ?_
      simp only [DataW.weights, hT, List.mem_cons, List.mem_append]
      refine .inr (.inl ?_)
      have key : ∀ (l : List (DataW H)), D i ∈ l → k ∈ DataW.weightsAll P E l := by
        intro l
        induction l with
        | nil => intro h; simp at h
        | cons d l ih =>
          intro h
          simp only [DataW.weightsAll, List.mem_append]
          rcases List.mem_cons.1 h with rfl | h
          · exact .inl hk
          · exact .inr (ih h)
      exact key _ (List.mem_map.2 ⟨i, List.mem_range.2 hi, rfl⟩)
    have hx2 : ∀ i, i < len → ∃ x : α, ok x ∧ (enc x).length = sz ∧ ∀ j, j < sz → w.cell? ((a.add (i * sz)).add j) = (enc x)[j]? := by
      intro i hi
      obtain ⟨cs', h1, h2⟩ := hx i (by omega)
      obtain ⟨x, rfl, hlen, hok⟩ := hE H eH n cs' _ h2 (hwe i hi)
      obtain ⟨_, _, h3⟩ := World.cells?_some h1
      rw [hc] at h3
      exact ⟨x, hok, hlen, h3⟩
    by_cases h0 : len = 0
    · subst h0
      exact ⟨⟨some a, m, []⟩, rfl, rfl, ⟨.inl rfl, by simp, Nat.zero_le _, hm, hreach, fun h => by simp at h⟩⟩
    · obtain ⟨x0, _⟩ := hx2 0 (by omega)
      have : Inhabited α := ⟨x0⟩
      obtain ⟨f, hf⟩ := Deep.choose_lt (p := fun i x => ok x ∧ (enc x).length = sz ∧ ∀ j, j < sz → w.cell? ((a.add (i * sz)).add j) = (enc x)[j]?) hx2
      have hlen : ((List.range len).map f).length = len := by simp
      refine ⟨⟨some a, m, (List.range len).map f⟩, by simp [SL.enc, SL.val], rfl, ⟨?_, ?_, by simpa using hl, hm, hreach, fun h => by simp at h⟩⟩
      · obtain ⟨_, hl0, hc0⟩ := hf 0 (by omega)
        have hcell := hc0 0 hsz
        rw [List.getElem?_eq_getElem (by omega)] at hcell
        simp only [Nat.zero_mul] at hcell
        have hadd0 : ((a.add 0).add 0) = a := by simp [Addr.add]
        rw [hadd0] at hcell
        have hsp := World.cell?_spot hcell
        have hlt := World.block_lt_of_cell? w a hcell
        obtain ⟨b, o, sp⟩ := a
        simp only at hsp
        subst hsp
        refine .inr ⟨b, o, rfl, hlt, fun i j v hv => ?_⟩
        cases hxi : ((List.range len).map f)[i]? with
        | none => rw [hxi] at hv; simp at hv
        | some x =>
          rw [hxi] at hv
          have hi : i < len := by have := (List.getElem?_eq_some_iff.1 hxi).1; simpa using this
          have hfx : f i = x := by simpa [hi] using hxi
          obtain ⟨_, hl1, hc1⟩ := hf i hi
          have hj : j < sz := by
            have hv' : (enc x)[j]? = some v := by simpa using hv
            have := (List.getElem?_eq_some_iff.1 hv').1
            rw [← hfx, hl1] at this; exact this
          have := hc1 j hj
          rw [hfx] at this
          rw [Deep.add_add, Addr.add_lit] at this
          rw [this]; simpa using hv
      · intro x hx
        simp only [List.mem_map, List.mem_range] at hx
        obtain ⟨i, hi, rfl⟩ := hx
        obtain ⟨h1, h2, _⟩ := hf i hi
        exact ⟨h1, h2⟩
theorem Opens.map {P : Program} {T sz : Nat} {w : World} {α β : Type} {enc : α → List Value} {ok : α → Prop} {enc' : β → List Value} {ok' : β → Prop} (h : Opens P T sz w enc ok) (f : α → β) (hf : ∀ x, enc' (f x) = enc x) (hok : ∀ x, ok x → ok' (f x)) : Opens P T sz w enc' ok' := by
  intro H eH fuel cs y hy hw
  obtain ⟨x, rfl, hl, ho⟩ := h H eH fuel cs y hy hw
  exact ⟨f x, (hf x).symm, hl, hok x ho⟩
def OpensF (P : Program) (w : World) (fs : List Field) (o sz : Nat) {α : Type} (enc : α → List Value) (ok : α → Prop) : Prop :=
  ∀ (H : Type) (eH : TypeId × Value → H) (fuel : Nat) (cs : List Value), cs.length = o + sz →
    (∀ f ∈ fs, ∃ y, DataW.trod eH P w 0 (fun _ => true) true fuel f.type ((cs.drop f.offset).take (P.cellsOf f.type)) = some y ∧ ∀ n ∈ y.1.weights P f.type, n ≤ reachBytes) → ∃ x : α, cs.drop o = enc x ∧ ok x
theorem OpensF.nil {P : Program} {w : World} {o : Nat} : OpensF P w [] o 0 (fun _ : Unit => []) (fun _ => True) := by
  intro H eH fuel cs hl _
  exact ⟨(), List.drop_eq_nil_of_le (by omega), trivial⟩
theorem OpensF.cons {P : Program} {w : World} {f : Field} {fs : List Field} {o n sz : Nat} {α β : Type} {enc : α → List Value} {ok : α → Prop} {enc' : β → List Value} {ok' : β → Prop}
    (ho : f.offset = o) (hn : P.cellsOf f.type = n) (h : Opens P f.type n w enc ok) (h' : OpensF P w fs (o + n) sz enc' ok') :
    OpensF P w (f :: fs) o (n + sz) (fun x : α × β => enc x.1 ++ enc' x.2) (fun x => ok x.1 ∧ ok' x.2) := by
  intro H eH fuel cs hl hall
  obtain ⟨y, hy, hw⟩ := hall f (by simp)
  rw [ho, hn] at hy
  obtain ⟨x, hx, _, hok⟩ := h H eH fuel _ y hy hw
  obtain ⟨x', hx', hok'⟩ := h' H eH fuel cs (by omega) (fun g hg => hall g (by simp [hg]))
  refine ⟨(x, x'), ?_, hok, hok'⟩
  show cs.drop o = enc x ++ enc' x'
  rw [← hx, ← hx', ← List.drop_drop, List.take_append_drop]
theorem Opens.struct {P : Program} {T sz : Nat} {w : World} {fs : Array Field} {α : Type} {enc : α → List Value} {ok : α → Prop} (hT : P.underlying T = some (.struct fs)) (hc : P.cellsOf T = sz) (h : OpensF P w fs.toList 0 sz enc ok) :
    Opens P T sz w enc ok := by
  intro H eH fuel cs y hy hw
  obtain ⟨xs, n, _, rfl, hl, hlen, hfs⟩ := DataW.trod_struct hT hy
  obtain ⟨x, hx, hok⟩ := h H eH n cs (by omega) (fun f hf => by
    obtain ⟨i, hi, he⟩ := List.getElem_of_mem hf
    have hi' : i < fs.size := by simpa using hi
    have hfi : fs[i]? = some f := by rw [Array.getElem?_eq_getElem hi']; simpa using he
    have := hfs i f hfi
    have hx : xs[i]? = some (xs[i]'(by omega)) := List.getElem?_eq_getElem (by omega)
    rw [hx] at this
    refine ⟨_, this, fun k hk => hw k ?_⟩
    simp only [DataW.weights, hT]
    refine DataW.weights_mem_each (j := i) (t := f.type) ?_ ?_ k hk
    · rw [List.getElem?_map, Array.getElem?_toList, hfi]; rfl
    · rw [List.getElem?_map, hx]; rfl)
  exact ⟨x, by simpa using hx, by omega, hok⟩
theorem Opens.arg {P : Program} {T sz : Nat} {w : World} {α : Type} {enc : α → List Value} {ok : α → Prop} (h : Opens P T sz w enc ok) {H : Type} {eH : TypeId × Value → H} {v : Value} {d : DataW H} {p : List MemPlace}
    (hT : DataW.Trod eH P w 0 (fun _ => true) true T v d p) {ts : List TypeId} {ds : List (DataW H)} (hz : (DataW.weightsEach P ts ds).all (· ≤ reachBytes) = true) (j : Nat) (h1 : ts[j]? = some T) (h2 : ds[j]? = some d) : ∃ x : α, v.cells.toList = enc x ∧ ok x := by
  obtain ⟨fuel, hf⟩ := hT
  obtain ⟨x, h1, _, h2⟩ := h H eH fuel _ _ hf (fun n hn => by
    have := List.all_eq_true.1 hz n (DataW.weights_mem_each h1 h2 n hn)
    simpa using this)
  exact ⟨x, h1, h2⟩
theorem arg_struct {P : Program} {w : World} {base t : Nat} {v : Value} {cs : List Value} {fs : Array Field} (h : Value.okWide P w .any base t v) (hs : P.underlying t = some (.struct fs)) (hc : v.cells.toList = cs) : v = .agg cs.toArray := by
  simp only [Value.okWide, hs] at h
  obtain ⟨cs', rfl, _⟩ := h
  subst hc
  simp [Value.cells]
end Go.Proofs.Ytjkdhjmegoblnaa
namespace Go.Proofs.Ytjkdhjmegoblnaa
set_option linter.all false
open Go.RowKit
theorem rel_c {w : World} {F : Nat → Prop} {b : Nat} : ∀ (ps : List PV) (vs : List Value) (o : Nat), vs.length = ps.length → (∀ (j : Nat) v, vs[j]? = some v → w.cell? ⟨b, o + j, none⟩ = some v) → (∀ (j : Nat) p u, ps[j]? = some p → vs[j]? = some u → RelP w F p u) → RelC w F b o ps
  | [], _, _, _, _, _ => by simp only [RelC]
  | p :: ps, [], _, h, _, _ => by simp at h
  | p :: ps, v :: vs, o, h, hc, hr => by
    simp only [RelC]
    refine ⟨⟨v, by have := hc 0 v rfl; simpa using this, hr 0 p v rfl rfl⟩, rel_c ps vs (o + 1) (by simpa using h) (fun j u hu => ?_) (fun j q u h1 h2 => hr (j + 1) q u h1 h2)⟩
    have := hc (j + 1) u hu
    rwa [show o + (j + 1) = o + 1 + j from by omega] at this
theorem rel_e {α : Type} {w : World} {F : Nat → Prop} {b sz : Nat} {enc : α → List Value} {pv : α → List PV} : ∀ (xs : List α) (o : Nat), (∀ i j v, (xs[i]?).bind (fun x => (enc x)[j]?) = some v → w.cell? ⟨b, o + (i * sz + j), none⟩ = some v) →
    (∀ x ∈ xs, (pv x).length = sz ∧ (enc x).length = sz ∧ ∀ (j : Nat) p u, (pv x)[j]? = some p → (enc x)[j]? = some u → RelP w F p u) → RelE w F b sz o (xs.map pv)
  | [], _, _, _ => by simp only [List.map_nil, RelE]
  | x :: xs, o, hc, hp => by
    simp only [List.map_cons, RelE]
    obtain ⟨h1, h2, h3⟩ := hp x (by simp)
    refine ⟨h1, rel_c (pv x) (enc x) o (by rw [h1, h2]) (fun j v hv => ?_) h3, rel_e xs (o + sz) (fun i j v hv => ?_) fun y hy => hp y (List.mem_cons_of_mem _ hy)⟩
    · have := hc 0 j v (by simpa using hv); simpa using this
    · have := hc (i + 1) j v (by simpa using hv)
      rwa [show o + ((i + 1) * sz + j) = o + sz + (i * sz + j) from by rw [Nat.succ_mul]; omega] at this
theorem rel_sl {α : Type} {w : World} {B sz bts : Nat} {enc : α → List Value} {ok : α → Prop} {s : SL α} {pv : α → List PV} (h : SLok w B sz bts enc ok s)
    (hp : ∀ x ∈ s.xs, ok x → (pv x).length = sz ∧ ∀ (j : Nat) p u, (pv x)[j]? = some p → (enc x)[j]? = some u → RelP w (· < B) p u) : RelP w (· < B) (.sl sz (s.xs.map pv)) s.val := by
  simp only [RelP]
  refine ⟨s.a, s.c, by simp [SL.val], by simpa using h.cap, h.max, ?_⟩
  rcases h.els with h1 | ⟨b, o, ha, hb, hc⟩
  · exact .inl (by rw [h1]; rfl)
  · refine .inr ⟨b, o, ha, hb, rel_e s.xs o hc fun x hx => ?_⟩
    obtain ⟨h1, h2⟩ := h.each x hx
    obtain ⟨h3, h4⟩ := hp x hx h1
    exact ⟨h3, h2, h4⟩
theorem spec_law {P : Program} {f : FuncId} {args : List AV} (S : Spec P f args [] (B true) []) {w : World} {vs : List Value} (hr : RelL (· < 0) w (· < w.heap.size) (fun _ => none) args vs) :
    Calls P f vs.toArray w fun e w' => e = .returned (.bool true) ∧ Below w.heap.size w w' := by
  have M : MemOk w (inB fun _ => none) (· < ([] : List Chunk).length) (· < w.heap.size) (fun _ => none) (nth []) w :=
    ⟨Nat.le_refl _, rfl, rfl, rfl, fun _ _ _ => rfl, fun _ h => h, fun _ _ h => by simp at h, fun _ h => absurd rfl h, fun _ _ _ _ _ h => by simp at h, fun _ _ _ h => by simp at h⟩
  refine (S.2.2 w (· < w.heap.size) (fun _ => none) vs M hr).mono ?_
  rintro e w' ⟨v, F', β', rfl, M', hv, _⟩
  refine ⟨by rw [relB.1 hv], M'.os, M'.tape, M'.output, M'.size, fun b hb => M'.frame b hb ?_⟩
  rintro ⟨i, bd, h, _⟩
  simp at h
theorem relL_nil {U F : Nat → Prop} {β : Nat → Option Bind} {w : World} : RelL U w F β [] [] := by simp only [RelL]
theorem relL_cons {U F : Nat → Prop} {β : Nat → Option Bind} {w : World} {x : AV} {xs : List AV} {v : Value} {vs : List Value} (h1 : RelA U w F β x v) (h2 : RelL U w F β xs vs) : RelL U w F β (x :: xs) (v :: vs) := by
  simp only [RelL]; exact ⟨v, vs, rfl, h1, h2⟩
theorem relA_agg {U F : Nat → Prop} {β : Nat → Option Bind} {w : World} {xs : List AV} {vs : List Value} (h : RelL U w F β xs vs) (h1 : ∀ x ∈ vs, x.oneCell' = true) : RelA U w F β (.agg xs) (.agg vs.toArray) := by
  simp only [RelA]; exact ⟨vs.toArray, rfl, by simpa using h, by simpa using h1⟩
theorem relA_c {U F : Nat → Prop} {β : Nat → Option Bind} {w : World} {p : PV} {v : Value} (h : RelP w F p v) : RelA U w F β (.c p) v := by simp only [RelA]; exact h
theorem relP_v {F : Nat → Prop} {w : World} {v : Value} (h : v.oneCell' = true) : RelP w F (.v v) v := by simp [RelP, h]
end Go.Proofs.Ytjkdhjmegoblnaa
namespace Go.Proofs.Ytjkdhjmegoblnaa
set_option linter.all false
open Go.RowKit
attribute [push_cast] invA awp awpL opW opWF opX opG ex3 fz fzL inZ fzH deadsOf rowsA rowsL fzEff mapAV kty keyA intsA ex2 ex1 loadAV cellsAt valOf addO fieldAddrAV partAV fieldAV indexAddrAV indexAV bound sliceAV convAV lenAV minInts maxInts isPtr pickAV bsel_false bsel_true binAV intBin strBin eqAV eqCells eqVal nilP unAV slOf cellsOf toPV toPVs splice fillA plFs buildAV chunks sameO makeAV sliceLitAV storeAV rowOf appAV dstOk dstV gcond strip stripsT St.app putO look_n look_c lookC_n lookC_c getO ofV seqK blkK scoK nilCmp xorB opK drK lpK_n lpK_e lpK_r joinK_n joinK_e joinK_r argsT hsT RetQ I B S Op.operands Call.operands cv cvL ix ix.go cellP cvC up upL upC upsL upI DrawG drawL touch touch2 cellIds idsA idsL memN onlyC wk_self bool_imp cvT cvH hsW resAV oneV WkL WkC List.map_cons List.map_nil Option.toArray List.getElem?_cons_zero List.getElem?_cons_succ List.getElem?_nil List.drop_succ_cons List.drop_zero List.drop_nil List.take_succ_cons List.take_zero List.take_nil List.append_nil List.nil_append List.cons_append List.getElem?_toArray List.length_cons List.length_nil List.all_cons List.all_nil Bool.and_true Bool.true_and Bool.and_self Bool.and_false Bool.false_and Bool.or_false Bool.or_true Bool.true_or Bool.false_or Option.map_some Option.map_none Option.bind_some Option.bind_none if_true if_false true_and and_true List.getD_cons_zero List.getD_cons_succ Bool.not_true Bool.not_false Bool.false_eq_true not_false_eq_true not_true_eq_false Option.isSome_some List.isEmpty_cons Nat.add_zero Nat.zero_add List.length_map List.replicate_succ List.replicate_zero Nat.sub_zero and_self implies_true forall_const Value.oneCell' imp_self Int.toNat_zero Int.toNat_one Int.toNat_natCast true_or or_true or_false false_or Array.toList_append List.size_toArray decide_true decide_false Nat.ble_eq Nat.beq_eq Bool.and_eq_true Int.natCast_add Int.cast_ofNat_Int Int.natCast_zero Int.natCast_one decide_eq_true_eq decide_eq_false_iff_not Bool.not_eq_true' Bool.not_eq_false' Bool.or_eq_true Bool.or_eq_false_iff Bool.and_eq_false_iff beq_self_eq_true
end Go.Proofs.Ytjkdhjmegoblnaa
namespace Go.Proofs.Ytjkdhjmegoblnaa
set_option linter.all false
theorem mix : Try.prog.follows .mixedOrders = true := by kernel_rfl
theorem it3 : intTy Try.prog 3 = true := by kernel_rfl
theorem ty3 : ty Try.prog 3 = some ⟨.int .i64, false, 1, 8, [.int .i64 0]⟩ := by kernel_rfl
theorem ty4 : ty Try.prog 4 = some ⟨.bool, false, 1, 1, [.bool false]⟩ := by kernel_rfl
theorem ty5 : ty Try.prog 5 = some ⟨.int .u8, false, 1, 1, [.int .u8 0]⟩ := by kernel_rfl
theorem ty9 : ty Try.prog 9 = some ⟨.str, false, 1, 16, [.string ByteArray.empty]⟩ := by kernel_rfl
theorem ty20 : ty Try.prog 20 = some ⟨.ifc, false, 1, 16, [.nilIface]⟩ := by kernel_rfl
theorem ty23 : ty Try.prog 23 = some ⟨.sl 38, false, 1, 24, [.slice none 0 0]⟩ := by kernel_rfl
theorem ty25 : ty Try.prog 25 = some ⟨.st [some (0, 1, false), some (1, 1, false)], true, 2, 16, [.int .i64 0, .int .i64 0]⟩ := by kernel_rfl
theorem ty27 : ty Try.prog 27 = some ⟨.st [some (0, 1, false), some (1, 1, false), some (2, 1, false), some (3, 2, true), some (5, 1, false)], true, 6, 48, [.int .i64 0, .int .i64 0, .int .i64 0, .int .i64 0, .int .i64 0, .int .i64 0]⟩ := by kernel_rfl
theorem it28 : intTy Try.prog 28 = true := by kernel_rfl
theorem ty28 : ty Try.prog 28 = some ⟨.int .i64, false, 1, 8, [.int .i64 0]⟩ := by kernel_rfl
theorem ty36 : ty Try.prog 36 = some ⟨.sl 27, false, 1, 24, [.slice none 0 0]⟩ := by kernel_rfl
theorem ty38 : ty Try.prog 38 = some ⟨.st [some (0, 1, false), some (1, 1, false), some (2, 1, false)], true, 3, 40, [.slice none 0 0, .int .i64 0, .bool false]⟩ := by kernel_rfl
theorem ty41 : ty Try.prog 41 = some ⟨.sl 3, false, 1, 24, [.slice none 0 0]⟩ := by kernel_rfl
theorem ty43 : ty Try.prog 43 = some ⟨.st [some (0, 1, false), some (1, 1, false), some (2, 1, false)], true, 3, 40, [.int .i64 0, .int .i64 0, .slice none 0 0]⟩ := by kernel_rfl
theorem ty44 : ty Try.prog 44 = some ⟨.sl 25, false, 1, 24, [.slice none 0 0]⟩ := by kernel_rfl
theorem ty52 : ty Try.prog 52 = some ⟨.sl 113, false, 1, 24, [.slice none 0 0]⟩ := by kernel_rfl
theorem ty54 : ty Try.prog 54 = some ⟨.st [some (0, 3, true), some (3, 1, false), some (4, 1, false), some (5, 1, false), some (6, 1, false), some (7, 1, false), some (8, 1, false)], true, 9, 152, [.int .i64 0, .int .i64 0, .slice none 0 0, .slice none 0 0, .slice none 0 0, .slice none 0 0, .slice none 0 0, .int .i64 0, .int .i64 0]⟩ := by kernel_rfl
theorem ty55 : ty Try.prog 55 = some ⟨.sl 64, false, 1, 24, [.slice none 0 0]⟩ := by kernel_rfl
theorem ty56 : ty Try.prog 56 = some ⟨.sl 68, false, 1, 24, [.slice none 0 0]⟩ := by kernel_rfl
theorem ty57 : ty Try.prog 57 = some ⟨.sl 72, false, 1, 24, [.slice none 0 0]⟩ := by kernel_rfl
theorem ty64 : ty Try.prog 64 = some ⟨.st [some (0, 1, false), some (1, 1, false)], true, 2, 16, [.int .i64 0, .int .i64 0]⟩ := by kernel_rfl
theorem ty68 : ty Try.prog 68 = some ⟨.st [some (0, 1, false), some (1, 2, true)], true, 3, 24, [.int .i64 0, .int .i64 0, .int .i64 0]⟩ := by kernel_rfl
theorem ty72 : ty Try.prog 72 = some ⟨.st [some (0, 1, false), some (1, 1, false), some (2, 2, true), some (4, 1, false)], true, 5, 40, [.int .i64 0, .int .i64 0, .int .i64 0, .int .i64 0, .int .i64 0]⟩ := by kernel_rfl
theorem ty82 : ty Try.prog 82 = some ⟨.sl 180, false, 1, 24, [.slice none 0 0]⟩ := by kernel_rfl
theorem ty83 : ty Try.prog 83 = some ⟨.sl 193, false, 1, 24, [.slice none 0 0]⟩ := by kernel_rfl
theorem ty84 : ty Try.prog 84 = some ⟨.sl 188, false, 1, 24, [.slice none 0 0]⟩ := by kernel_rfl
theorem ty86 : ty Try.prog 86 = some ⟨.st [some (0, 1, false), some (1, 1, false)], true, 2, 48, [.slice none 0 0, .slice none 0 0]⟩ := by kernel_rfl
theorem ty91 : ty Try.prog 91 = some ⟨.int .u64, false, 1, 8, [.int .u64 0]⟩ := by kernel_rfl
theorem ty92 : ty Try.prog 92 = some ⟨.sl 91, false, 1, 24, [.slice none 0 0]⟩ := by kernel_rfl
theorem ty97 : ty Try.prog 97 = some ⟨.sl 4, false, 1, 24, [.slice none 0 0]⟩ := by kernel_rfl
theorem ty113 : ty Try.prog 113 = some ⟨.st [some (0, 1, false), some (1, 1, false), some (2, 1, false), some (3, 2, true), some (5, 1, false), some (6, 1, false)], true, 7, 56, [.int .i64 0, .int .i64 0, .int .i64 0, .int .i64 0, .int .i64 0, .int .i64 0, .int .i64 0]⟩ := by kernel_rfl
theorem ty121 : ty Try.prog 121 = some ⟨.sl 9, false, 1, 24, [.slice none 0 0]⟩ := by kernel_rfl
theorem ty123 : ty Try.prog 123 = some ⟨.st [some (0, 1, false), some (1, 1, false), some (2, 1, false), some (3, 1, false), some (4, 1, false), some (5, 1, false), some (6, 1, false), some (7, 1, false)], true, 8, 144, [.int .i64 0, .slice none 0 0, .int .i64 0, .int .i64 0, .slice none 0 0, .slice none 0 0, .slice none 0 0, .slice none 0 0]⟩ := by kernel_rfl
theorem ty125 : ty Try.prog 125 = some ⟨.st [some (0, 1, false), some (1, 1, false), some (2, 1, false), some (3, 1, false)], true, 4, 40, [.int .i64 0, .int .i64 0, .bool false, .string ByteArray.empty]⟩ := by kernel_rfl
theorem ty132 : ty Try.prog 132 = some ⟨.sl 125, false, 1, 24, [.slice none 0 0]⟩ := by kernel_rfl
theorem ty133 : ty Try.prog 133 = some ⟨.sl 28, false, 1, 24, [.slice none 0 0]⟩ := by kernel_rfl
theorem ty146 : ty Try.prog 146 = some ⟨.sl 151, false, 1, 24, [.slice none 0 0]⟩ := by kernel_rfl
theorem ty149 : ty Try.prog 149 = some ⟨.ptr 146, false, 1, 8, [.pointer none]⟩ := by kernel_rfl
theorem ty151 : ty Try.prog 151 = some ⟨.st [some (0, 1, false), some (1, 1, false)], true, 2, 16, [.int .i64 0, .int .i64 0]⟩ := by kernel_rfl
theorem ty158 : ty Try.prog 158 = some ⟨.mp 3 3, false, 1, 8, [.map none]⟩ := by kernel_rfl
theorem ty160 : ty Try.prog 160 = some ⟨.st [some (0, 1, false), some (1, 1, false), some (2, 1, false)], true, 3, 72, [.slice none 0 0, .slice none 0 0, .slice none 0 0]⟩ := by kernel_rfl
theorem ty164 : ty Try.prog 164 = some ⟨.st [some (0, 1, false), some (1, 1, false), some (2, 1, false), some (3, 1, false)], true, 4, 32, [.int .i64 0, .int .i64 0, .int .i64 0, .int .i64 0]⟩ := by kernel_rfl
theorem ty180 : ty Try.prog 180 = some ⟨.st [some (0, 1, false), some (1, 1, false), some (2, 1, false), some (3, 1, false)], true, 4, 32, [.int .i64 0, .int .i64 0, .int .i64 0, .int .i64 0]⟩ := by kernel_rfl
theorem ty183 : ty Try.prog 183 = some ⟨.st [some (0, 2, true)], true, 2, 48, [.slice none 0 0, .slice none 0 0]⟩ := by kernel_rfl
theorem ty186 : ty Try.prog 186 = some ⟨.int .u32, false, 1, 4, [.int .u32 0]⟩ := by kernel_rfl
theorem ty188 : ty Try.prog 188 = some ⟨.st [some (0, 1, false), some (1, 1, false), some (2, 1, false), some (3, 1, false), some (4, 1, false), some (5, 1, false)], true, 6, 64, [.int .i64 0, .int .u32 0, .slice none 0 0, .bool false, .int .i64 0, .int .u32 0]⟩ := by kernel_rfl
theorem ty189 : ty Try.prog 189 = some ⟨.arr 51 188, true, 306, 3264, [.int .i64 0, .int .u32 0, .slice none 0 0, .bool false, .int .i64 0, .int .u32 0, .int .i64 0, .int .u32 0, .slice none 0 0, .bool false, .int .i64 0, .int .u32 0, .int .i64 0, .int .u32 0, .slice none 0 0, .bool false, .int .i64 0, .int .u32 0, .int .i64 0, .int .u32 0, .slice none 0 0, .bool false, .int .i64 0, .int .u32 0, .int .i64 0, .int .u32 0, .slice none 0 0, .bool false, .int .i64 0, .int .u32 0, .int .i64 0, .int .u32 0, .slice none 0 0, .bool false, .int .i64 0, .int .u32 0, .int .i64 0, .int .u32 0, .slice none 0 0, .bool false, .int .i64 0, .int .u32 0, .int .i64 0, .int .u32 0, .slice none 0 0, .bool false, .int .i64 0, .int .u32 0, .int .i64 0, .int .u32 0, .slice none 0 0, .bool false, .int .i64 0, .int .u32 0, .int .i64 0, .int .u32 0, .slice none 0 0, .bool false, .int .i64 0, .int .u32 0, .int .i64 0, .int .u32 0, .slice none 0 0, .bool false, .int .i64 0, .int .u32 0, .int .i64 0, .int .u32 0, .slice none 0 0, .bool false, .int .i64 0, .int .u32 0, .int .i64 0, .int .u32 0, .slice none 0 0, .bool false, .int .i64 0, .int .u32 0, .int .i64 0, .int .u32 0, .slice none 0 0, .bool false, .int .i64 0, .int .u32 0, .int .i64 0, .int .u32 0, .slice none 0 0, .bool false, .int .i64 0, .int .u32 0, .int .i64 0, .int .u32 0, .slice none 0 0, .bool false, .int .i64 0, .int .u32 0, .int .i64 0, .int .u32 0, .slice none 0 0, .bool false, .int .i64 0, .int .u32 0, .int .i64 0, .int .u32 0, .slice none 0 0, .bool false, .int .i64 0, .int .u32 0, .int .i64 0, .int .u32 0, .slice none 0 0, .bool false, .int .i64 0, .int .u32 0, .int .i64 0, .int .u32 0, .slice none 0 0, .bool false, .int .i64 0, .int .u32 0, .int .i64 0, .int .u32 0, .slice none 0 0, .bool false, .int .i64 0, .int .u32 0, .int .i64 0, .int .u32 0, .slice none 0 0, .bool false, .int .i64 0, .int .u32 0, .int .i64 0, .int .u32 0, .slice none 0 0, .bool false, .int .i64 0, .int .u32 0, .int .i64 0, .int .u32 0, .slice none 0 0, .bool false, .int .i64 0, .int .u32 0, .int .i64 0, .int .u32 0, .slice none 0 0, .bool false, .int .i64 0, .int .u32 0, .int .i64 0, .int .u32 0, .slice none 0 0, .bool false, .int .i64 0, .int .u32 0, .int .i64 0, .int .u32 0, .slice none 0 0, .bool false, .int .i64 0, .int .u32 0, .int .i64 0, .int .u32 0, .slice none 0 0, .bool false, .int .i64 0, .int .u32 0, .int .i64 0, .int .u32 0, .slice none 0 0, .bool false, .int .i64 0, .int .u32 0, .int .i64 0, .int .u32 0, .slice none 0 0, .bool false, .int .i64 0, .int .u32 0, .int .i64 0, .int .u32 0, .slice none 0 0, .bool false, .int .i64 0, .int .u32 0, .int .i64 0, .int .u32 0, .slice none 0 0, .bool false, .int .i64 0, .int .u32 0, .int .i64 0, .int .u32 0, .slice none 0 0, .bool false, .int .i64 0, .int .u32 0, .int .i64 0, .int .u32 0, .slice none 0 0, .bool false, .int .i64 0, .int .u32 0, .int .i64 0, .int .u32 0, .slice none 0 0, .bool false, .int .i64 0, .int .u32 0, .int .i64 0, .int .u32 0, .slice none 0 0, .bool false, .int .i64 0, .int .u32 0, .int .i64 0, .int .u32 0, .slice none 0 0, .bool false, .int .i64 0, .int .u32 0, .int .i64 0, .int .u32 0, .slice none 0 0, .bool false, .int .i64 0, .int .u32 0, .int .i64 0, .int .u32 0, .slice none 0 0, .bool false, .int .i64 0, .int .u32 0, .int .i64 0, .int .u32 0, .slice none 0 0, .bool false, .int .i64 0, .int .u32 0, .int .i64 0, .int .u32 0, .slice none 0 0, .bool false, .int .i64 0, .int .u32 0, .int .i64 0, .int .u32 0, .slice none 0 0, .bool false, .int .i64 0, .int .u32 0, .int .i64 0, .int .u32 0, .slice none 0 0, .bool false, .int .i64 0, .int .u32 0, .int .i64 0, .int .u32 0, .slice none 0 0, .bool false, .int .i64 0, .int .u32 0, .int .i64 0, .int .u32 0, .slice none 0 0, .bool false, .int .i64 0, .int .u32 0, .int .i64 0, .int .u32 0, .slice none 0 0, .bool false, .int .i64 0, .int .u32 0, .int .i64 0, .int .u32 0, .slice none 0 0, .bool false, .int .i64 0, .int .u32 0, .int .i64 0, .int .u32 0, .slice none 0 0, .bool false, .int .i64 0, .int .u32 0, .int .i64 0, .int .u32 0, .slice none 0 0, .bool false, .int .i64 0, .int .u32 0, .int .i64 0, .int .u32 0, .slice none 0 0, .bool false, .int .i64 0, .int .u32 0, .int .i64 0, .int .u32 0, .slice none 0 0, .bool false, .int .i64 0, .int .u32 0]⟩ := by kernel_rfl
theorem ty190 : ty Try.prog 190 = some ⟨.arr 51 4, true, 51, 51, [.bool false, .bool false, .bool false, .bool false, .bool false, .bool false, .bool false, .bool false, .bool false, .bool false, .bool false, .bool false, .bool false, .bool false, .bool false, .bool false, .bool false, .bool false, .bool false, .bool false, .bool false, .bool false, .bool false, .bool false, .bool false, .bool false, .bool false, .bool false, .bool false, .bool false, .bool false, .bool false, .bool false, .bool false, .bool false, .bool false, .bool false, .bool false, .bool false, .bool false, .bool false, .bool false, .bool false, .bool false, .bool false, .bool false, .bool false, .bool false, .bool false, .bool false, .bool false]⟩ := by kernel_rfl
theorem ty193 : ty Try.prog 193 = some ⟨.st [some (0, 1, false), some (1, 1, false), some (2, 1, false)], true, 3, 24, [.int .i64 0, .int .i64 0, .int .i64 0]⟩ := by kernel_rfl
theorem ty209 : ty Try.prog 209 = some ⟨.st [some (0, 9, true)], true, 9, 152, [.int .i64 0, .int .i64 0, .slice none 0 0, .slice none 0 0, .slice none 0 0, .slice none 0 0, .slice none 0 0, .int .i64 0, .int .i64 0]⟩ := by kernel_rfl
theorem ty211 : ty Try.prog 211 = some ⟨.arr 2 41, true, 2, 48, [.slice none 0 0, .slice none 0 0]⟩ := by kernel_rfl
theorem ty223 : ty Try.prog 223 = some ⟨.ptr 232, false, 1, 8, [.pointer none]⟩ := by kernel_rfl
theorem ty227 : ty Try.prog 227 = some ⟨.arr 4 25, true, 8, 64, [.int .i64 0, .int .i64 0, .int .i64 0, .int .i64 0, .int .i64 0, .int .i64 0, .int .i64 0, .int .i64 0]⟩ := by kernel_rfl
theorem ty230 : ty Try.prog 230 = some ⟨.sl 326, false, 1, 24, [.slice none 0 0]⟩ := by kernel_rfl
theorem ty232 : ty Try.prog 232 = some ⟨.st [some (0, 3, true), some (3, 2, true), some (5, 1, false), some (6, 1, false)], true, 7, 104, [.int .i64 0, .int .i64 0, .slice none 0 0, .int .i64 0, .int .i64 0, .slice none 0 0, .slice none 0 0]⟩ := by kernel_rfl
theorem ty238 : ty Try.prog 238 = some ⟨.ptr 123, false, 1, 8, [.pointer none]⟩ := by kernel_rfl
theorem ty250 : ty Try.prog 250 = some ⟨.ifc, false, 1, 16, [.nilIface]⟩ := by kernel_rfl
theorem ty258 : ty Try.prog 258 = some ⟨.sl 164, false, 1, 24, [.slice none 0 0]⟩ := by kernel_rfl
theorem ty261 : ty Try.prog 261 = some ⟨.ptr 264, false, 1, 8, [.pointer none]⟩ := by kernel_rfl
theorem ty262 : ty Try.prog 262 = some ⟨.sl 5, false, 1, 24, [.slice none 0 0]⟩ := by kernel_rfl
theorem ty264 : ty Try.prog 264 = some ⟨.st [some (0, 1, false), some (1, 1, false)], true, 2, 32, [.pointer none, .slice none 0 0]⟩ := by kernel_rfl
theorem ty271 : ty Try.prog 271 = some ⟨.int .u64, false, 1, 8, [.int .u64 0]⟩ := by kernel_rfl
theorem ty279 : ty Try.prog 279 = some ⟨.ptr 183, false, 1, 8, [.pointer none]⟩ := by kernel_rfl
theorem ty288 : ty Try.prog 288 = some ⟨.ptr 209, false, 1, 8, [.pointer none]⟩ := by kernel_rfl
theorem ty300 : ty Try.prog 300 = some ⟨.ptr 41, false, 1, 8, [.pointer none]⟩ := by kernel_rfl
theorem ty307 : ty Try.prog 307 = some ⟨.mp 25 3, false, 1, 8, [.map none]⟩ := by kernel_rfl
theorem ty308 : ty Try.prog 308 = some ⟨.ptr 5, false, 1, 8, [.pointer none]⟩ := by kernel_rfl
theorem ty314 : ty Try.prog 314 = some ⟨.ptr 113, false, 1, 8, [.pointer none]⟩ := by kernel_rfl
theorem ty321 : ty Try.prog 321 = some ⟨.arr 2 25, true, 4, 32, [.int .i64 0, .int .i64 0, .int .i64 0, .int .i64 0]⟩ := by kernel_rfl
theorem ty324 : ty Try.prog 324 = some ⟨.ptr 230, false, 1, 8, [.pointer none]⟩ := by kernel_rfl
theorem ty326 : ty Try.prog 326 = some ⟨.st [some (0, 2, true), some (2, 1, false), some (3, 1, false)], true, 4, 32, [.int .i64 0, .int .i64 0, .int .i64 0, .int .i64 0]⟩ := by kernel_rfl
theorem fl25 : flatN Try.prog 9 25 = some [0, 0] := by kernel_rfl
theorem ag25 : aggT Try.prog 25 = true := by kernel_rfl
theorem fl27 : flatN Try.prog 9 27 = some [0, 0, 0, 0, 0, 0] := by kernel_rfl
theorem ag27 : aggT Try.prog 27 = true := by kernel_rfl
theorem fl64 : flatN Try.prog 9 64 = some [0, 0] := by kernel_rfl
theorem ag64 : aggT Try.prog 64 = true := by kernel_rfl
theorem fl68 : flatN Try.prog 9 68 = some [0, 0, 0] := by kernel_rfl
theorem ag68 : aggT Try.prog 68 = true := by kernel_rfl
theorem fl72 : flatN Try.prog 9 72 = some [0, 0, 0, 0, 0] := by kernel_rfl
theorem ag72 : aggT Try.prog 72 = true := by kernel_rfl
theorem fl113 : flatN Try.prog 9 113 = some [0, 0, 0, 0, 0, 0, 0] := by kernel_rfl
theorem ag113 : aggT Try.prog 113 = true := by kernel_rfl
theorem fl193 : flatN Try.prog 9 193 = some [0, 0, 0] := by kernel_rfl
theorem ag193 : aggT Try.prog 193 = true := by kernel_rfl
theorem meth149_Len : methA Try.prog 149 "Len" = some (81, false, some 146) := by kernel_rfl
theorem meth149_Less : methA Try.prog 149 "Less" = some (276, false, some 146) := by kernel_rfl
theorem meth149_Pop : methA Try.prog 149 "Pop" = some (278, true, some 146) := by kernel_rfl
theorem meth149_Push : methA Try.prog 149 "Push" = some (279, true, some 146) := by kernel_rfl
theorem meth149_Swap : methA Try.prog 149 "Swap" = some (277, false, some 146) := by kernel_rfl
theorem meth324_Len : methA Try.prog 324 "Len" = some (231, false, some 230) := by kernel_rfl
theorem meth324_Less : methA Try.prog 324 "Less" = some (280, false, some 230) := by kernel_rfl
theorem meth324_Pop : methA Try.prog 324 "Pop" = some (284, true, some 230) := by kernel_rfl
theorem meth324_Push : methA Try.prog 324 "Push" = some (285, true, some 230) := by kernel_rfl
theorem meth324_Swap : methA Try.prog 324 "Swap" = some (281, false, some 230) := by kernel_rfl
attribute [push_cast] it3 ty3 ty4 ty5 ty9 ty20 ty23 ty25 ty27 it28 ty28 ty36 ty38 ty41 ty43 ty44 ty52 ty54 ty55 ty56 ty57 ty64 ty68 ty72 ty82 ty83 ty84 ty86 ty91 ty92 ty97 ty113 ty121 ty123 ty125 ty132 ty133 ty146 ty149 ty151 ty158 ty160 ty164 ty180 ty183 ty186 ty188 ty189 ty190 ty193 ty209 ty211 ty223 ty227 ty230 ty232 ty238 ty250 ty258 ty261 ty262 ty264 ty271 ty279 ty288 ty300 ty307 ty308 ty314 ty321 ty324 ty326 fl25 ag25 fl27 ag27 fl64 ag64 fl68 ag68 fl72 ag72 fl113 ag113 fl193 ag193 meth149_Len meth149_Less meth149_Pop meth149_Push meth149_Swap meth324_Len meth324_Less meth324_Pop meth324_Push meth324_Swap
end Go.Proofs.Ytjkdhjmegoblnaa
namespace Go.Proofs.Ytjkdhjmegoblnaa
set_option linter.all false
open Go.RowKit
abbrev In64 (n : Int) : Prop := -9223372036854775808 ≤ n ∧ n ≤ 9223372036854775807
abbrev pI (n : Int) : PV := .v (.int .i64 n)
abbrev pB (b : Bool) : PV := .v (.bool b)
def i64P (n : Int) : List PV := [pI n]
def u64P (n : Nat) : List PV := [.v (.int .u64 n)]
def boolP (b : Bool) : List PV := [pB b]
def strP (s : ByteArray) : List PV := [.v (.string s)]
structure Cel where
  x : Int
  y : Int
  deriving DecidableEq, Inhabited
def celP (c : Cel) : List PV := [pI c.x, pI c.y]
abbrev celA (c : Cel) : AV := .agg [I .i64 c.x, I .i64 c.y]
structure Fld where
  w : Int
  h : Int
  p : List Int
  deriving DecidableEq, Inhabited
abbrev fldA (f : Fld) : AV := .agg [I .i64 f.w, I .i64 f.h, .c (.sl 1 (f.p.map i64P))]
structure Trp where
  id : Int
  owner : Int
  kind : Int
  c : Cel
  life : Int
  load : Int
  deriving DecidableEq, Inhabited
def trpP (t : Trp) : List PV := [pI t.id, pI t.owner, pI t.kind, pI t.c.x, pI t.c.y, pI t.life, pI t.load]
structure Wld where
  f : Fld
  bases : List Cel
  stocks : List Int
  mines : List Int
  troops : List Trp
  next : Int
  now : Int
  deriving DecidableEq, Inhabited
abbrev wldA (w : Wld) : AV := .agg [I .i64 w.f.w, I .i64 w.f.h, .c (.sl 1 (w.f.p.map i64P)), .c (.sl 2 (w.bases.map celP)), .c (.sl 1 (w.stocks.map i64P)), .c (.sl 1 (w.mines.map i64P)), .c (.sl 7 (w.troops.map trpP)), I .i64 w.next, I .i64 w.now]
structure Ord where
  by_ : Int
  kind : Int
  who : Int
  c : Cel
  what : Int
  deriving DecidableEq, Inhabited
theorem getD_in {α : Type} [Inhabited α] (f : α → List PV) (l : List α) (i : Nat) (h : i < l.length) : (l.map f).getD i [] = f (l.getD i default) := by
  simp [h]
theorem getD_at {α : Type} [Inhabited α] (l : List α) (i : Nat) (h : i < l.length) : l.getD i default = l[i] := by simp [h]
theorem take_snoc {α : Type} [Inhabited α] (l : List α) (k : Nat) (h : k < l.length) : l.take (k + 1) = l.take k ++ [l.getD k default] := by rw [List.take_succ_eq_append_getElem h, getD_at _ _ h]
theorem getD_mem {α : Type} [Inhabited α] (l : List α) (i : Nat) (h : i < l.length) : l.getD i default ∈ l := by rw [getD_at _ _ h]; exact List.getElem_mem h
end Go.Proofs.Ytjkdhjmegoblnaa
namespace Go.Proofs.Ytjkdhjmegoblnaa
set_option linter.all false
open Go.RowKit
set_option maxRecDepth 100000
theorem ixOf_any {α : Type} (p : α → Bool) (l : List α) : decide (0 ≤ ixOf p l) = l.any p := by
  unfold ixOf
  cases h : l.findIdx? p with
  | none =>
    have := List.findIdx?_eq_none_iff.1 h
    simp only [show ¬ (0 : Int) ≤ -1 by omega, decide_false]
    symm; rw [List.any_eq_false]; intro x hx; simp [this x hx]
  | some i =>
    obtain ⟨hi, h1, _⟩ := List.findIdx?_eq_some_iff_getElem.1 h
    simp only [Int.natCast_nonneg, decide_true]
    symm; rw [List.any_eq_true]; exact ⟨_, List.getElem_mem hi, h1⟩
theorem int_ix (F : FuncId) (a b : List AV) (l : List Int) (p : Int → Bool) (hl : l.length ≤ 9223372036854775807) (hp : ∀ n ∈ l, Spec Try.prog F (a ++ [I .i64 n] ++ b) [] (B (p n)) []) (ha : ∀ h, cvL [] h a = a) (hb : ∀ h, cvL [] h b = b) :
    Spec Try.prog 207 [.c (.sl 1 (l.map i64P)), .clo (.func F) a b] [] (I .i64 (ixOf p l)) [] := by
  refine spec_am Try.func207 rfl rfl mix 19 rfl [.tmp 4] Try.results207 (Nat.le_of_ble_eq_true rfl) ?_
  simp (etaStruct := .none) only [push_cast, Int.cast_ofNat_Int, Nat.reduceAdd, Nat.reduceSub, Nat.reduceMul, reduceCtorEq, reduceIte, Nat.reduceEqDiff, Nat.reduceLT, Nat.reduceLeDiff, Nat.reduceBEq, Int.reduceToNat, Int.reduceLE, Int.reduceLT]
  refine loopI (fun k : Nat => ⟨[(8, I .i64 k), (7, I .i64 l.length), (0, .c (.sl 1 (l.map i64P))), (1, .clo (.func F) a b)], [], 0⟩) (fun k => k ≤ l.length ∧ ∀ j (hj : j < l.length), j < k → p l[j] = false) (fun k => l.length - k) 0 ⟨Nat.zero_le _, fun j _ h => by omega⟩ (To.mk [] rfl rfl List.nodup_nil trivial ?_) ?_
  · simp (etaStruct := .none) only [push_cast, Int.cast_ofNat_Int, Nat.reduceAdd, Nat.reduceSub, Nat.reduceMul, reduceCtorEq, reduceIte, Nat.reduceEqDiff, Nat.reduceLT, Nat.reduceLeDiff, Nat.reduceBEq, Int.reduceToNat, Int.reduceLE, Int.reduceLT, ha, hb]
  · rintro k ⟨hk, hn⟩
    simp (etaStruct := .none) only [push_cast, Int.cast_ofNat_Int, Nat.reduceAdd, Nat.reduceSub, Nat.reduceMul, reduceCtorEq, reduceIte, Nat.reduceEqDiff, Nat.reduceLT, Nat.reduceLeDiff, Nat.reduceBEq, Int.reduceToNat, Int.reduceLE, Int.reduceLT]
    refine cond_i (fun h => ?_) (fun h => ?_)
    · have hlt : k < l.length := by simpa using h
      simp (etaStruct := .none) only [push_cast, Int.cast_ofNat_Int, Nat.reduceAdd, Nat.reduceSub, Nat.reduceMul, reduceCtorEq, reduceIte, Nat.reduceEqDiff, Nat.reduceLT, Nat.reduceLeDiff, Nat.reduceBEq, Int.reduceToNat, Int.reduceLE, Int.reduceLT, getD_map _ _ _ hlt, i64P]
      repeat (with_reducible refine And.intro ?_ ?_; · first | omega | decide | (simp; done) | (simp; omega) | (intro hh; refine ⟨hh, ?_⟩; omega) | (simp +contextual; done))
      refine callP (hp _ (List.getElem_mem hlt)) (by simp only [cvL_append, ha, hb, cvL, cv]; exact WkL.refl _) ?_
      simp (etaStruct := .none) only [push_cast, Int.cast_ofNat_Int, Nat.reduceAdd, Nat.reduceSub, Nat.reduceMul, reduceCtorEq, reduceIte, Nat.reduceEqDiff, Nat.reduceLT, Nat.reduceLeDiff, Nat.reduceBEq, Int.reduceToNat, Int.reduceLE, Int.reduceLT]
      refine cond_i (fun h => ?_) (fun h => ?_)
      · simp (etaStruct := .none) only [push_cast, Int.cast_ofNat_Int, Nat.reduceAdd, Nat.reduceSub, Nat.reduceMul, reduceCtorEq, reduceIte, Nat.reduceEqDiff, Nat.reduceLT, Nat.reduceLeDiff, Nat.reduceBEq, Int.reduceToNat, Int.reduceLE, Int.reduceLT]
        exact ret0 rfl trivial (Wk.of (by rw [ixOf_hit p l k hlt h hn]; rfl))
      · simp (etaStruct := .none) only [push_cast, Int.cast_ofNat_Int, Nat.reduceAdd, Nat.reduceSub, Nat.reduceMul, reduceCtorEq, reduceIte, Nat.reduceEqDiff, Nat.reduceLT, Nat.reduceLeDiff, Nat.reduceBEq, Int.reduceToNat, Int.reduceLE, Int.reduceLT]
        refine ⟨k + 1, ⟨by omega, fun j hj hjk => ?_⟩, by omega, To.mk [] rfl rfl List.nodup_nil trivial ?_⟩
        · by_cases e : j = k
          · subst e; exact h
          · exact hn j hj (by omega)
        · simp (etaStruct := .none) only [push_cast, Int.cast_ofNat_Int, Nat.reduceAdd, Nat.reduceSub, Nat.reduceMul, reduceCtorEq, reduceIte, Nat.reduceEqDiff, Nat.reduceLT, Nat.reduceLeDiff, Nat.reduceBEq, Int.reduceToNat, Int.reduceLE, Int.reduceLT, ha, hb]
          simp (disch := omega) only [wrap_in, wk_self, Int.tdiv_eq_ediv_of_nonneg, Int.tmod_eq_emod_of_nonneg]
    · have hge : k = l.length := by simp at h; omega
      subst hge
      simp (etaStruct := .none) only [push_cast, Int.cast_ofNat_Int, Nat.reduceAdd, Nat.reduceSub, Nat.reduceMul, reduceCtorEq, reduceIte, Nat.reduceEqDiff, Nat.reduceLT, Nat.reduceLeDiff, Nat.reduceBEq, Int.reduceToNat, Int.reduceLE, Int.reduceLT]
      exact ret0 rfl trivial (Wk.of (by rw [ixOf_miss p l (fun j hj => hn j hj hj)]; rfl))
theorem int_any (F : FuncId) (a b : List AV) (l : List Int) (p : Int → Bool) (hl : l.length ≤ 9223372036854775807) (hp : ∀ n ∈ l, Spec Try.prog F (a ++ [I .i64 n] ++ b) [] (B (p n)) []) (ha : ∀ h, cvL [] h a = a) (hb : ∀ h, cvL [] h b = b) :
    Spec Try.prog 155 [.c (.sl 1 (l.map i64P)), .clo (.func F) a b] [] (B (l.any p)) [] := by
  refine spec_am Try.func155 rfl rfl mix 9 rfl [.tmp 4] Try.results155 (Nat.le_of_ble_eq_true rfl) ?_
  simp (etaStruct := .none) only [push_cast, Int.cast_ofNat_Int, Nat.reduceAdd, Nat.reduceSub, Nat.reduceMul, reduceCtorEq, reduceIte, Nat.reduceEqDiff, Nat.reduceLT, Nat.reduceLeDiff, Nat.reduceBEq, Int.reduceToNat, Int.reduceLE, Int.reduceLT]
  refine callP (int_ix F a b l p hl hp ha hb) (by simp only [ha, hb, cvL, cv]; exact WkL.refl _) ?_
  simp (etaStruct := .none) only [push_cast, Int.cast_ofNat_Int, Nat.reduceAdd, Nat.reduceSub, Nat.reduceMul, reduceCtorEq, reduceIte, Nat.reduceEqDiff, Nat.reduceLT, Nat.reduceLeDiff, Nat.reduceBEq, Int.reduceToNat, Int.reduceLE, Int.reduceLT]
  exact ret0 rfl trivial (Wk.of (by rw [ixOf_any]; rfl))
end Go.Proofs.Ytjkdhjmegoblnaa
namespace Go.Proofs.Ytjkdhjmegoblnaa
set_option linter.all false
open Go.RowKit
set_option maxRecDepth 100000
def within (n a b : Int) : Bool := decide (a ≤ n) && decide (n ≤ b)
theorem within_iff {n a b : Int} : within n a b = true ↔ a ≤ n ∧ n ≤ b := by unfold within; simp
theorem within_f {n a b : Int} : within n a b = false ↔ ¬ (a ≤ n ∧ n ≤ b) := by unfold within; simp
theorem between_s (n a b : Int) : Spec Try.prog 18 [I .i64 n, I .i64 a, I .i64 b] [] (B (within n a b)) [] := by
  refine spec_am Try.func18 rfl rfl mix 15 rfl [.tmp 6] Try.results18 (Nat.le_of_ble_eq_true rfl) ?_
  (try simp (etaStruct := .none) only [push_cast, Int.cast_ofNat_Int, Nat.reduceAdd, Nat.reduceSub, Nat.reduceMul, reduceCtorEq, reduceIte, Nat.reduceEqDiff, Nat.reduceLT, Nat.reduceLeDiff, Nat.reduceBEq, Int.reduceToNat, Int.reduceLE, Int.reduceLT]); (try simp (disch := omega) only [wrap_in, wk_self, Int.tdiv_eq_ediv_of_nonneg, Int.tmod_eq_emod_of_nonneg]); (repeat (with_reducible refine And.intro ?_ ?_; · first | omega | decide | (simp; done) | (simp; omega) | (intro hh; refine ⟨hh, ?_⟩; omega) | (simp +contextual; done)))
  exact ret0 rfl trivial (Wk.of (congrArg B (by unfold within; first | rfl | simp)))
def fldBad (f : Fld) : Bool := !within f.w 1 40 || !within f.h 1 40
def fldForm (f : Fld) : Bool := !decide ((f.p.length : Int) = f.w * f.h) || f.p.any (fun p => decide (p < 0) || decide (4 ≤ p))
def fldE (f : Fld) : Int := if fldBad f then 1 else if fldForm f then 4 else 0
theorem fldE_ok {f : Fld} (h : fldE f = 0) : (1 ≤ f.w ∧ f.w ≤ 40) ∧ (1 ≤ f.h ∧ f.h ≤ 40) ∧ (f.p.length : Int) = f.w * f.h ∧ ∀ p ∈ f.p, 0 ≤ p ∧ p < 4 := by
  unfold fldE at h
  split at h
  · simp at h
  · rename_i h1
    split at h
    · simp at h
    · rename_i h2
      simp only [fldBad, Bool.or_eq_true, Bool.not_eq_true', not_or, Bool.not_eq_false, within_iff] at h1
      simp only [fldForm, Bool.or_eq_true, Bool.not_eq_true', decide_eq_false_iff_not, not_or, Decidable.not_not, List.any_eq_true, not_exists, not_and, decide_eq_true_eq] at h2
      exact ⟨h1.1, h1.2, h2.1, fun p hp => by have := h2.2 p hp; omega⟩
theorem side_s (n : Int) : Spec Try.prog 154 [I .i64 n] [] (B (within n 1 40)) [] := by
  refine spec_am Try.func154 rfl rfl mix 9 rfl [.tmp 2] Try.results154 (Nat.le_of_ble_eq_true rfl) ?_
  (try simp (etaStruct := .none) only [push_cast, Int.cast_ofNat_Int, Nat.reduceAdd, Nat.reduceSub, Nat.reduceMul, reduceCtorEq, reduceIte, Nat.reduceEqDiff, Nat.reduceLT, Nat.reduceLeDiff, Nat.reduceBEq, Int.reduceToNat, Int.reduceLE, Int.reduceLT]); (try simp (disch := omega) only [wrap_in, wk_self, Int.tdiv_eq_ediv_of_nonneg, Int.tmod_eq_emod_of_nonneg]); (repeat (with_reducible refine And.intro ?_ ?_; · first | omega | decide | (simp; done) | (simp; omega) | (intro hh; refine ⟨hh, ?_⟩; omega) | (simp +contextual; done)))
  exact ret0 rfl trivial (Wk.of (congrArg B (by unfold within; first | rfl | simp)))
theorem fclo_s (n : Int) : Spec Try.prog 156 ([] ++ [I .i64 n] ++ []) [] (B (decide (n < 0) || decide (4 ≤ n))) [] := by
  refine spec_am Try.func156 rfl rfl mix 9 rfl [.tmp 2] Try.results156 (Nat.le_of_ble_eq_true rfl) ?_
  (try simp (etaStruct := .none) only [push_cast, Int.cast_ofNat_Int, Nat.reduceAdd, Nat.reduceSub, Nat.reduceMul, reduceCtorEq, reduceIte, Nat.reduceEqDiff, Nat.reduceLT, Nat.reduceLeDiff, Nat.reduceBEq, Int.reduceToNat, Int.reduceLE, Int.reduceLT]); (try simp (disch := omega) only [wrap_in, wk_self, Int.tdiv_eq_ediv_of_nonneg, Int.tmod_eq_emod_of_nonneg]); (repeat (with_reducible refine And.intro ?_ ?_; · first | omega | decide | (simp; done) | (simp; omega) | (intro hh; refine ⟨hh, ?_⟩; omega) | (simp +contextual; done)))
  exact ret0 rfl trivial (Wk.refl _)
theorem fcheck_s (f : Fld) (hl : f.p.length ≤ 9223372036854775807) : Spec Try.prog 78 [fldA f] [] (I .i64 (fldE f)) [] := by
  refine spec_am Try.func78 rfl rfl mix 27 rfl [.tmp 2] Try.results78 (Nat.le_of_ble_eq_true rfl) ?_
  (try simp (etaStruct := .none) only [push_cast, Int.cast_ofNat_Int, Nat.reduceAdd, Nat.reduceSub, Nat.reduceMul, reduceCtorEq, reduceIte, Nat.reduceEqDiff, Nat.reduceLT, Nat.reduceLeDiff, Nat.reduceBEq, Int.reduceToNat, Int.reduceLE, Int.reduceLT]); (try simp (disch := omega) only [wrap_in, wk_self, Int.tdiv_eq_ediv_of_nonneg, Int.tmod_eq_emod_of_nonneg]); (repeat (with_reducible refine And.intro ?_ ?_; · first | omega | decide | (simp; done) | (simp; omega) | (intro hh; refine ⟨hh, ?_⟩; omega) | (simp +contextual; done)))
  refine callP (side_s f.w) (WkL.refl _) ?_
  (try simp (etaStruct := .none) only [push_cast, Int.cast_ofNat_Int, Nat.reduceAdd, Nat.reduceSub, Nat.reduceMul, reduceCtorEq, reduceIte, Nat.reduceEqDiff, Nat.reduceLT, Nat.reduceLeDiff, Nat.reduceBEq, Int.reduceToNat, Int.reduceLE, Int.reduceLT]); (try simp (disch := omega) only [wrap_in, wk_self, Int.tdiv_eq_ediv_of_nonneg, Int.tmod_eq_emod_of_nonneg]); (repeat (with_reducible refine And.intro ?_ ?_; · first | omega | decide | (simp; done) | (simp; omega) | (intro hh; refine ⟨hh, ?_⟩; omega) | (simp +contextual; done)))
  refine gcallP (fun hc => side_s f.h) (WkL.refl _) (by intro hc; (try simp (etaStruct := .none) only [push_cast, Int.cast_ofNat_Int, Nat.reduceAdd, Nat.reduceSub, Nat.reduceMul, reduceCtorEq, reduceIte, Nat.reduceEqDiff, Nat.reduceLT, Nat.reduceLeDiff, Nat.reduceBEq, Int.reduceToNat, Int.reduceLE, Int.reduceLT]); (try simp_all)) ?_
  (try simp (etaStruct := .none) only [push_cast, Int.cast_ofNat_Int, Nat.reduceAdd, Nat.reduceSub, Nat.reduceMul, reduceCtorEq, reduceIte, Nat.reduceEqDiff, Nat.reduceLT, Nat.reduceLeDiff, Nat.reduceBEq, Int.reduceToNat, Int.reduceLE, Int.reduceLT]); (try simp (disch := omega) only [wrap_in, wk_self, Int.tdiv_eq_ediv_of_nonneg, Int.tmod_eq_emod_of_nonneg]); (repeat (with_reducible refine And.intro ?_ ?_; · first | omega | decide | (simp; done) | (simp; omega) | (intro hh; refine ⟨hh, ?_⟩; omega) | (simp +contextual; done)))
  refine cond_i (fun h1 => ?_) (fun h1 => ?_)
  · (try simp (etaStruct := .none) only [push_cast, Int.cast_ofNat_Int, Nat.reduceAdd, Nat.reduceSub, Nat.reduceMul, reduceCtorEq, reduceIte, Nat.reduceEqDiff, Nat.reduceLT, Nat.reduceLeDiff, Nat.reduceBEq, Int.reduceToNat, Int.reduceLE, Int.reduceLT]); (try simp (disch := omega) only [wrap_in, wk_self, Int.tdiv_eq_ediv_of_nonneg, Int.tmod_eq_emod_of_nonneg]); (repeat (with_reducible refine And.intro ?_ ?_; · first | omega | decide | (simp; done) | (simp; omega) | (intro hh; refine ⟨hh, ?_⟩; omega) | (simp +contextual; done)))
    (first | (refine ret0 rfl (by repeat' (first | exact trivial | exact rfl | refine ⟨?_, ?_⟩)) (Wk.of ?_); (try simp (etaStruct := .none) only [push_cast, Int.cast_ofNat_Int, Nat.reduceAdd, Nat.reduceSub, Nat.reduceMul, reduceCtorEq, reduceIte, Nat.reduceEqDiff, Nat.reduceLT, Nat.reduceLeDiff, Nat.reduceBEq, Int.reduceToNat, Int.reduceLE, Int.reduceLT]); first | done | (simp [fldE, fldBad, fldForm, *]; done) | (simp_all [fldE, fldBad, fldForm]; done)) | (refine ret0 rfl (by repeat' (first | exact trivial | exact rfl | refine ⟨?_, ?_⟩)) ?_; (try simp (etaStruct := .none) only [push_cast, Int.cast_ofNat_Int, Nat.reduceAdd, Nat.reduceSub, Nat.reduceMul, reduceCtorEq, reduceIte, Nat.reduceEqDiff, Nat.reduceLT, Nat.reduceLeDiff, Nat.reduceBEq, Int.reduceToNat, Int.reduceLE, Int.reduceLT]); (try simp [fldE, fldBad, fldForm, *]); (try (first | exact Wk.refl _ | exact Wk.nil _ | (refine Wk.tup ?_; repeat' (first | exact trivial | exact Wk.refl _ | exact Wk.nil _ | refine ⟨?_, ?_⟩ | (refine Wk.agg ?_)))))))
  · have hw : within f.w 1 40 = true ∧ within f.h 1 40 = true := by simpa using h1
    obtain ⟨h3, h4⟩ := hw
    rw [within_iff] at h3 h4
    have hm1 : 0 ≤ f.w * f.h := Int.mul_nonneg (by omega) (by omega)
    have hm2 : f.w * f.h ≤ 40 * 40 := Int.mul_le_mul h3.2 h4.2 (by omega) (by omega)
    (try simp (etaStruct := .none) only [push_cast, Int.cast_ofNat_Int, Nat.reduceAdd, Nat.reduceSub, Nat.reduceMul, reduceCtorEq, reduceIte, Nat.reduceEqDiff, Nat.reduceLT, Nat.reduceLeDiff, Nat.reduceBEq, Int.reduceToNat, Int.reduceLE, Int.reduceLT]); (try simp (disch := omega) only [wrap_in, wk_self, Int.tdiv_eq_ediv_of_nonneg, Int.tmod_eq_emod_of_nonneg]); (repeat (with_reducible refine And.intro ?_ ?_; · first | omega | decide | (simp; done) | (simp; omega) | (intro hh; refine ⟨hh, ?_⟩; omega) | (simp +contextual; done)))
    refine gcallP (fun hc => int_any _ [] [] f.p (fun p => decide (p < 0) || decide (4 ≤ p)) hl (fun n _ => fclo_s n) (fun _ => rfl) (fun _ => rfl)) (WkL.refl _) (by intro hc; (try simp (etaStruct := .none) only [push_cast, Int.cast_ofNat_Int, Nat.reduceAdd, Nat.reduceSub, Nat.reduceMul, reduceCtorEq, reduceIte, Nat.reduceEqDiff, Nat.reduceLT, Nat.reduceLeDiff, Nat.reduceBEq, Int.reduceToNat, Int.reduceLE, Int.reduceLT]); (try simp_all)) ?_
    (try simp (etaStruct := .none) only [push_cast, Int.cast_ofNat_Int, Nat.reduceAdd, Nat.reduceSub, Nat.reduceMul, reduceCtorEq, reduceIte, Nat.reduceEqDiff, Nat.reduceLT, Nat.reduceLeDiff, Nat.reduceBEq, Int.reduceToNat, Int.reduceLE, Int.reduceLT]); (try simp (disch := omega) only [wrap_in, wk_self, Int.tdiv_eq_ediv_of_nonneg, Int.tmod_eq_emod_of_nonneg]); (repeat (with_reducible refine And.intro ?_ ?_; · first | omega | decide | (simp; done) | (simp; omega) | (intro hh; refine ⟨hh, ?_⟩; omega) | (simp +contextual; done)))
    refine cond_i (fun h2 => ?_) (fun h2 => ?_)
    · (try simp (etaStruct := .none) only [push_cast, Int.cast_ofNat_Int, Nat.reduceAdd, Nat.reduceSub, Nat.reduceMul, reduceCtorEq, reduceIte, Nat.reduceEqDiff, Nat.reduceLT, Nat.reduceLeDiff, Nat.reduceBEq, Int.reduceToNat, Int.reduceLE, Int.reduceLT]); (try simp (disch := omega) only [wrap_in, wk_self, Int.tdiv_eq_ediv_of_nonneg, Int.tmod_eq_emod_of_nonneg]); (repeat (with_reducible refine And.intro ?_ ?_; · first | omega | decide | (simp; done) | (simp; omega) | (intro hh; refine ⟨hh, ?_⟩; omega) | (simp +contextual; done)))
      (first | (refine ret0 rfl (by repeat' (first | exact trivial | exact rfl | refine ⟨?_, ?_⟩)) (Wk.of ?_); (try simp (etaStruct := .none) only [push_cast, Int.cast_ofNat_Int, Nat.reduceAdd, Nat.reduceSub, Nat.reduceMul, reduceCtorEq, reduceIte, Nat.reduceEqDiff, Nat.reduceLT, Nat.reduceLeDiff, Nat.reduceBEq, Int.reduceToNat, Int.reduceLE, Int.reduceLT]); first | done | (simp [fldE, fldBad, fldForm, *]; done) | (simp_all [fldE, fldBad, fldForm]; done)) | (refine ret0 rfl (by repeat' (first | exact trivial | exact rfl | refine ⟨?_, ?_⟩)) ?_; (try simp (etaStruct := .none) only [push_cast, Int.cast_ofNat_Int, Nat.reduceAdd, Nat.reduceSub, Nat.reduceMul, reduceCtorEq, reduceIte, Nat.reduceEqDiff, Nat.reduceLT, Nat.reduceLeDiff, Nat.reduceBEq, Int.reduceToNat, Int.reduceLE, Int.reduceLT]); (try simp [fldE, fldBad, fldForm, *]); (try (first | exact Wk.refl _ | exact Wk.nil _ | (refine Wk.tup ?_; repeat' (first | exact trivial | exact Wk.refl _ | exact Wk.nil _ | refine ⟨?_, ?_⟩ | (refine Wk.agg ?_)))))))
    · (try simp (etaStruct := .none) only [push_cast, Int.cast_ofNat_Int, Nat.reduceAdd, Nat.reduceSub, Nat.reduceMul, reduceCtorEq, reduceIte, Nat.reduceEqDiff, Nat.reduceLT, Nat.reduceLeDiff, Nat.reduceBEq, Int.reduceToNat, Int.reduceLE, Int.reduceLT]); (try simp (disch := omega) only [wrap_in, wk_self, Int.tdiv_eq_ediv_of_nonneg, Int.tmod_eq_emod_of_nonneg]); (repeat (with_reducible refine And.intro ?_ ?_; · first | omega | decide | (simp; done) | (simp; omega) | (intro hh; refine ⟨hh, ?_⟩; omega) | (simp +contextual; done)))
      (first | (refine ret0 rfl (by repeat' (first | exact trivial | exact rfl | refine ⟨?_, ?_⟩)) (Wk.of ?_); (try simp (etaStruct := .none) only [push_cast, Int.cast_ofNat_Int, Nat.reduceAdd, Nat.reduceSub, Nat.reduceMul, reduceCtorEq, reduceIte, Nat.reduceEqDiff, Nat.reduceLT, Nat.reduceLeDiff, Nat.reduceBEq, Int.reduceToNat, Int.reduceLE, Int.reduceLT]); first | done | (simp [fldE, fldBad, fldForm, *]; done) | (simp_all [fldE, fldBad, fldForm]; done)) | (refine ret0 rfl (by repeat' (first | exact trivial | exact rfl | refine ⟨?_, ?_⟩)) ?_; (try simp (etaStruct := .none) only [push_cast, Int.cast_ofNat_Int, Nat.reduceAdd, Nat.reduceSub, Nat.reduceMul, reduceCtorEq, reduceIte, Nat.reduceEqDiff, Nat.reduceLT, Nat.reduceLeDiff, Nat.reduceBEq, Int.reduceToNat, Int.reduceLE, Int.reduceLT]); (try simp [fldE, fldBad, fldForm, *]); (try (first | exact Wk.refl _ | exact Wk.nil _ | (refine Wk.tup ?_; repeat' (first | exact trivial | exact Wk.refl _ | exact Wk.nil _ | refine ⟨?_, ?_⟩ | (refine Wk.agg ?_)))))))
def inF (f : Fld) (c : Cel) : Bool := within c.x 0 (f.w - 1) && within c.y 0 (f.h - 1)
theorem inF_iff {f : Fld} {c : Cel} : inF f c = true ↔ (0 ≤ c.x ∧ c.x < f.w) ∧ (0 ≤ c.y ∧ c.y < f.h) := by
  unfold inF; rw [Bool.and_eq_true, within_iff, within_iff]; omega
theorem inF_f {f : Fld} {c : Cel} : inF f c = false ↔ ¬ ((0 ≤ c.x ∧ c.x < f.w) ∧ (0 ≤ c.y ∧ c.y < f.h)) := by
  rw [← inF_iff, Bool.not_eq_true]
def placeV (f : Fld) (c : Cel) : Int := f.p.getD (c.y * f.w + c.x).toNat default
theorem place_ix {f : Fld} {c : Cel} (h : fldE f = 0) (hc : inF f c = true) : 0 ≤ c.y * f.w ∧ c.y * f.w ≤ 1600 ∧ 0 ≤ c.y * f.w + c.x ∧ c.y * f.w + c.x < f.p.length ∧ f.p.length ≤ 1600 := by
  obtain ⟨h1, h2, h3, _⟩ := fldE_ok h
  obtain ⟨h4, h5⟩ := inF_iff.1 hc
  have a1 : 0 ≤ c.y * f.w := Int.mul_nonneg (by omega) (by omega)
  have a2 : c.y * f.w ≤ (f.h - 1) * f.w := Int.mul_le_mul_of_nonneg_right (by omega) (by omega)
  have a3 : (f.h - 1) * f.w = f.w * f.h - f.w := by rw [Int.sub_mul, Int.mul_comm f.h, Int.one_mul]
  have a4 : f.w * f.h ≤ 40 * 40 := Int.mul_le_mul h1.2 h2.2 (by omega) (by omega)
  omega
def atV (f : Fld) (c : Cel) : Int × Int := if fldE f ≠ 0 then (0, fldE f) else if inF f c then (placeV f c, 0) else (0, 7)
theorem at_s (f : Fld) (c : Cel) (hl : f.p.length ≤ 9223372036854775807) : Spec Try.prog 79 [fldA f, celA c] [] (.tup [I .i64 (atV f c).1, I .i64 (atV f c).2]) [] := by
  refine spec_am Try.func79 rfl rfl mix 46 rfl [.tmp 4, .tmp 5] Try.results79 (Nat.le_of_ble_eq_true rfl) ?_
  (try simp (etaStruct := .none) only [push_cast, Int.cast_ofNat_Int, Nat.reduceAdd, Nat.reduceSub, Nat.reduceMul, reduceCtorEq, reduceIte, Nat.reduceEqDiff, Nat.reduceLT, Nat.reduceLeDiff, Nat.reduceBEq, Int.reduceToNat, Int.reduceLE, Int.reduceLT]); (try simp (disch := omega) only [wrap_in, wk_self, Int.tdiv_eq_ediv_of_nonneg, Int.tmod_eq_emod_of_nonneg]); (repeat (with_reducible refine And.intro ?_ ?_; · first | omega | decide | (simp; done) | (simp; omega) | (intro hh; refine ⟨hh, ?_⟩; omega) | (simp +contextual; done)))
  refine callP (fcheck_s f hl) (WkL.refl _) ?_
  (try simp (etaStruct := .none) only [push_cast, Int.cast_ofNat_Int, Nat.reduceAdd, Nat.reduceSub, Nat.reduceMul, reduceCtorEq, reduceIte, Nat.reduceEqDiff, Nat.reduceLT, Nat.reduceLeDiff, Nat.reduceBEq, Int.reduceToNat, Int.reduceLE, Int.reduceLT]); (try simp (disch := omega) only [wrap_in, wk_self, Int.tdiv_eq_ediv_of_nonneg, Int.tmod_eq_emod_of_nonneg]); (repeat (with_reducible refine And.intro ?_ ?_; · first | omega | decide | (simp; done) | (simp; omega) | (intro hh; refine ⟨hh, ?_⟩; omega) | (simp +contextual; done)))
  refine cond_i (fun h1 => ?_) (fun h1 => ?_)
  · (try simp only [decide_eq_true_eq, decide_eq_false_iff_not, Bool.not_eq_true', Bool.not_eq_false', Bool.or_eq_true, Bool.and_eq_true, Bool.or_eq_false_iff, Bool.and_eq_false_iff, Int.not_lt, Int.not_le, Bool.not_true, Bool.not_false, not_and, not_or] at h1)
    (try simp (etaStruct := .none) only [push_cast, Int.cast_ofNat_Int, Nat.reduceAdd, Nat.reduceSub, Nat.reduceMul, reduceCtorEq, reduceIte, Nat.reduceEqDiff, Nat.reduceLT, Nat.reduceLeDiff, Nat.reduceBEq, Int.reduceToNat, Int.reduceLE, Int.reduceLT]); (try simp (disch := omega) only [wrap_in, wk_self, Int.tdiv_eq_ediv_of_nonneg, Int.tmod_eq_emod_of_nonneg]); (repeat (with_reducible refine And.intro ?_ ?_; · first | omega | decide | (simp; done) | (simp; omega) | (intro hh; refine ⟨hh, ?_⟩; omega) | (simp +contextual; done)))
    (first | (refine ret0 rfl (by repeat' (first | exact trivial | exact rfl | refine ⟨?_, ?_⟩)) (Wk.of ?_); (try simp (etaStruct := .none) only [push_cast, Int.cast_ofNat_Int, Nat.reduceAdd, Nat.reduceSub, Nat.reduceMul, reduceCtorEq, reduceIte, Nat.reduceEqDiff, Nat.reduceLT, Nat.reduceLeDiff, Nat.reduceBEq, Int.reduceToNat, Int.reduceLE, Int.reduceLT]); first | done | (simp [atV, placeV, *]; done) | (simp_all [atV, placeV]; done)) | (refine ret0 rfl (by repeat' (first | exact trivial | exact rfl | refine ⟨?_, ?_⟩)) ?_; (try simp (etaStruct := .none) only [push_cast, Int.cast_ofNat_Int, Nat.reduceAdd, Nat.reduceSub, Nat.reduceMul, reduceCtorEq, reduceIte, Nat.reduceEqDiff, Nat.reduceLT, Nat.reduceLeDiff, Nat.reduceBEq, Int.reduceToNat, Int.reduceLE, Int.reduceLT]); (try simp [atV, placeV, *]); (try (first | exact Wk.refl _ | exact Wk.nil _ | (refine Wk.tup ?_; repeat' (first | exact trivial | exact Wk.refl _ | exact Wk.nil _ | refine ⟨?_, ?_⟩ | (refine Wk.agg ?_)))))))
  · (try simp only [decide_eq_true_eq, decide_eq_false_iff_not, Bool.not_eq_true', Bool.not_eq_false', Bool.or_eq_true, Bool.and_eq_true, Bool.or_eq_false_iff, Bool.and_eq_false_iff, Int.not_lt, Int.not_le, Bool.not_true, Bool.not_false, not_and, not_or] at h1)
    obtain ⟨e1, e2, e3, e4⟩ := fldE_ok h1
    (try simp (etaStruct := .none) only [push_cast, Int.cast_ofNat_Int, Nat.reduceAdd, Nat.reduceSub, Nat.reduceMul, reduceCtorEq, reduceIte, Nat.reduceEqDiff, Nat.reduceLT, Nat.reduceLeDiff, Nat.reduceBEq, Int.reduceToNat, Int.reduceLE, Int.reduceLT]); (try simp (disch := omega) only [wrap_in, wk_self, Int.tdiv_eq_ediv_of_nonneg, Int.tmod_eq_emod_of_nonneg]); (repeat (with_reducible refine And.intro ?_ ?_; · first | omega | decide | (simp; done) | (simp; omega) | (intro hh; refine ⟨hh, ?_⟩; omega) | (simp +contextual; done)))
    refine cond_i (fun h2 => ?_) (fun h2 => ?_)
    · (try simp only [decide_eq_true_eq, decide_eq_false_iff_not, Bool.not_eq_true', Bool.not_eq_false', Bool.or_eq_true, Bool.and_eq_true, Bool.or_eq_false_iff, Bool.and_eq_false_iff, Int.not_lt, Int.not_le, Bool.not_true, Bool.not_false, not_and, not_or] at h2)
      have hc : inF f c = false := inF_f.2 (by omega)
      (try simp (etaStruct := .none) only [push_cast, Int.cast_ofNat_Int, Nat.reduceAdd, Nat.reduceSub, Nat.reduceMul, reduceCtorEq, reduceIte, Nat.reduceEqDiff, Nat.reduceLT, Nat.reduceLeDiff, Nat.reduceBEq, Int.reduceToNat, Int.reduceLE, Int.reduceLT]); (try simp (disch := omega) only [wrap_in, wk_self, Int.tdiv_eq_ediv_of_nonneg, Int.tmod_eq_emod_of_nonneg]); (repeat (with_reducible refine And.intro ?_ ?_; · first | omega | decide | (simp; done) | (simp; omega) | (intro hh; refine ⟨hh, ?_⟩; omega) | (simp +contextual; done)))
      (first | (refine ret0 rfl (by repeat' (first | exact trivial | exact rfl | refine ⟨?_, ?_⟩)) (Wk.of ?_); (try simp (etaStruct := .none) only [push_cast, Int.cast_ofNat_Int, Nat.reduceAdd, Nat.reduceSub, Nat.reduceMul, reduceCtorEq, reduceIte, Nat.reduceEqDiff, Nat.reduceLT, Nat.reduceLeDiff, Nat.reduceBEq, Int.reduceToNat, Int.reduceLE, Int.reduceLT]); first | done | (simp [atV, placeV, *]; done) | (simp_all [atV, placeV]; done)) | (refine ret0 rfl (by repeat' (first | exact trivial | exact rfl | refine ⟨?_, ?_⟩)) ?_; (try simp (etaStruct := .none) only [push_cast, Int.cast_ofNat_Int, Nat.reduceAdd, Nat.reduceSub, Nat.reduceMul, reduceCtorEq, reduceIte, Nat.reduceEqDiff, Nat.reduceLT, Nat.reduceLeDiff, Nat.reduceBEq, Int.reduceToNat, Int.reduceLE, Int.reduceLT]); (try simp [atV, placeV, *]); (try (first | exact Wk.refl _ | exact Wk.nil _ | (refine Wk.tup ?_; repeat' (first | exact trivial | exact Wk.refl _ | exact Wk.nil _ | refine ⟨?_, ?_⟩ | (refine Wk.agg ?_)))))))
    · (try simp only [decide_eq_true_eq, decide_eq_false_iff_not, Bool.not_eq_true', Bool.not_eq_false', Bool.or_eq_true, Bool.and_eq_true, Bool.or_eq_false_iff, Bool.and_eq_false_iff, Int.not_lt, Int.not_le, Bool.not_true, Bool.not_false, not_and, not_or] at h2)
      have hc : inF f c = true := inF_iff.2 (by omega)
      obtain ⟨i1, i2, i3, i4, i5⟩ := place_ix h1 hc
      (try simp (etaStruct := .none) only [push_cast, Int.cast_ofNat_Int, Nat.reduceAdd, Nat.reduceSub, Nat.reduceMul, reduceCtorEq, reduceIte, Nat.reduceEqDiff, Nat.reduceLT, Nat.reduceLeDiff, Nat.reduceBEq, Int.reduceToNat, Int.reduceLE, Int.reduceLT, getD_in _ _ _ (show (c.y * f.w + c.x).toNat < f.p.length by omega), i64P]); (try simp (disch := omega) only [wrap_in, wk_self, Int.tdiv_eq_ediv_of_nonneg, Int.tmod_eq_emod_of_nonneg]); (repeat (with_reducible refine And.intro ?_ ?_; · first | omega | decide | (simp; done) | (simp; omega) | (intro hh; refine ⟨hh, ?_⟩; omega) | (simp +contextual; done))); (try simp (etaStruct := .none) only [push_cast, Int.cast_ofNat_Int, Nat.reduceAdd, Nat.reduceSub, Nat.reduceMul, reduceCtorEq, reduceIte, Nat.reduceEqDiff, Nat.reduceLT, Nat.reduceLeDiff, Nat.reduceBEq, Int.reduceToNat, Int.reduceLE, Int.reduceLT, getD_in _ _ _ (show (c.y * f.w + c.x).toNat < f.p.length by omega), i64P]); (try simp (disch := omega) only [wrap_in, wk_self, Int.tdiv_eq_ediv_of_nonneg, Int.tmod_eq_emod_of_nonneg]); (repeat (with_reducible refine And.intro ?_ ?_; · first | omega | decide | (simp; done) | (simp; omega) | (intro hh; refine ⟨hh, ?_⟩; omega) | (simp +contextual; done)))
      (first | (refine ret0 rfl (by repeat' (first | exact trivial | exact rfl | refine ⟨?_, ?_⟩)) (Wk.of ?_); (try simp (etaStruct := .none) only [push_cast, Int.cast_ofNat_Int, Nat.reduceAdd, Nat.reduceSub, Nat.reduceMul, reduceCtorEq, reduceIte, Nat.reduceEqDiff, Nat.reduceLT, Nat.reduceLeDiff, Nat.reduceBEq, Int.reduceToNat, Int.reduceLE, Int.reduceLT]); first | done | (simp [atV, placeV, *]; done) | (simp_all [atV, placeV]; done)) | (refine ret0 rfl (by repeat' (first | exact trivial | exact rfl | refine ⟨?_, ?_⟩)) ?_; (try simp (etaStruct := .none) only [push_cast, Int.cast_ofNat_Int, Nat.reduceAdd, Nat.reduceSub, Nat.reduceMul, reduceCtorEq, reduceIte, Nat.reduceEqDiff, Nat.reduceLT, Nat.reduceLeDiff, Nat.reduceBEq, Int.reduceToNat, Int.reduceLE, Int.reduceLT]); (try simp [atV, placeV, *]); (try (first | exact Wk.refl _ | exact Wk.nil _ | (refine Wk.tup ?_; repeat' (first | exact trivial | exact Wk.refl _ | exact Wk.nil _ | refine ⟨?_, ?_⟩ | (refine Wk.agg ?_)))))))
theorem fldE_form {f : Fld} (h1 : fldBad f = false) {i : Nat} (hi : i < f.p.length) (h : within (f.p.getD i default) 0 3 = false) : fldE f = 4 := by
  have : fldForm f = true := by
    unfold fldForm
    rw [Bool.or_eq_true]
    refine .inr (List.any_eq_true.2 ⟨_, List.getElem_mem hi, ?_⟩)
    rw [getD_at _ _ hi, within_f] at h
    simp; omega
  unfold fldE; rw [h1, this]; rfl
theorem fldE_fine {f : Fld} (h1 : fldBad f = false) (h2 : (f.p.length : Int) = f.w * f.h) (h : ∀ j, j < f.p.length → within (f.p.getD j default) 0 3 = true) : fldE f = 0 := by
  have : fldForm f = false := by
    unfold fldForm
    rw [Bool.or_eq_false_iff, List.any_eq_false]
    refine ⟨by simp [h2], fun p hp => ?_⟩
    obtain ⟨i, hi, rfl⟩ := List.getElem_of_mem hp
    have := h i hi
    rw [getD_at _ _ hi, within_iff] at this
    simp; omega
  unfold fldE; rw [h1, this]; rfl
theorem fright_s (f : Fld) (hl : f.p.length ≤ 9223372036854775807) : Spec Try.prog 84 [fldA f] [] (I .i64 (fldE f)) [] := by
  refine spec_am Try.func84 rfl rfl mix 35 rfl [.tmp 2] Try.results84 (Nat.le_of_ble_eq_true rfl) ?_
  (try simp (etaStruct := .none) only [push_cast, Int.cast_ofNat_Int, Nat.reduceAdd, Nat.reduceSub, Nat.reduceMul, reduceCtorEq, reduceIte, Nat.reduceEqDiff, Nat.reduceLT, Nat.reduceLeDiff, Nat.reduceBEq, Int.reduceToNat, Int.reduceLE, Int.reduceLT]); (try simp (disch := omega) only [wrap_in, wk_self, Int.tdiv_eq_ediv_of_nonneg, Int.tmod_eq_emod_of_nonneg]); (repeat (with_reducible refine And.intro ?_ ?_; · first | omega | decide | (simp; done) | (simp; omega) | (intro hh; refine ⟨hh, ?_⟩; omega) | (simp +contextual; done)))
  refine callP (between_s f.w 1 40) (WkL.refl _) ?_
  (try simp (etaStruct := .none) only [push_cast, Int.cast_ofNat_Int, Nat.reduceAdd, Nat.reduceSub, Nat.reduceMul, reduceCtorEq, reduceIte, Nat.reduceEqDiff, Nat.reduceLT, Nat.reduceLeDiff, Nat.reduceBEq, Int.reduceToNat, Int.reduceLE, Int.reduceLT]); (try simp (disch := omega) only [wrap_in, wk_self, Int.tdiv_eq_ediv_of_nonneg, Int.tmod_eq_emod_of_nonneg]); (repeat (with_reducible refine And.intro ?_ ?_; · first | omega | decide | (simp; done) | (simp; omega) | (intro hh; refine ⟨hh, ?_⟩; omega) | (simp +contextual; done)))
  refine gcallP (fun hcc => between_s f.h 1 40) (WkL.refl _) (by intro hc; (try simp (etaStruct := .none) only [push_cast, Int.cast_ofNat_Int, Nat.reduceAdd, Nat.reduceSub, Nat.reduceMul, reduceCtorEq, reduceIte, Nat.reduceEqDiff, Nat.reduceLT, Nat.reduceLeDiff, Nat.reduceBEq, Int.reduceToNat, Int.reduceLE, Int.reduceLT]); (try simp_all)) ?_
  (try simp (etaStruct := .none) only [push_cast, Int.cast_ofNat_Int, Nat.reduceAdd, Nat.reduceSub, Nat.reduceMul, reduceCtorEq, reduceIte, Nat.reduceEqDiff, Nat.reduceLT, Nat.reduceLeDiff, Nat.reduceBEq, Int.reduceToNat, Int.reduceLE, Int.reduceLT]); (try simp (disch := omega) only [wrap_in, wk_self, Int.tdiv_eq_ediv_of_nonneg, Int.tmod_eq_emod_of_nonneg]); (repeat (with_reducible refine And.intro ?_ ?_; · first | omega | decide | (simp; done) | (simp; omega) | (intro hh; refine ⟨hh, ?_⟩; omega) | (simp +contextual; done)))
  refine cond_i (fun h1 => ?_) (fun h1 => ?_)
  · (try simp only [decide_eq_true_eq, decide_eq_false_iff_not, Bool.not_eq_true', Bool.not_eq_false', Bool.or_eq_true, Bool.and_eq_true, Bool.or_eq_false_iff, Bool.and_eq_false_iff, Int.not_lt, Int.not_le, Bool.not_true, Bool.not_false, not_and, not_or] at h1)
    have hb : fldBad f = true := by unfold fldBad; simpa using h1
    (try simp (etaStruct := .none) only [push_cast, Int.cast_ofNat_Int, Nat.reduceAdd, Nat.reduceSub, Nat.reduceMul, reduceCtorEq, reduceIte, Nat.reduceEqDiff, Nat.reduceLT, Nat.reduceLeDiff, Nat.reduceBEq, Int.reduceToNat, Int.reduceLE, Int.reduceLT]); (try simp (disch := omega) only [wrap_in, wk_self, Int.tdiv_eq_ediv_of_nonneg, Int.tmod_eq_emod_of_nonneg]); (repeat (with_reducible refine And.intro ?_ ?_; · first | omega | decide | (simp; done) | (simp; omega) | (intro hh; refine ⟨hh, ?_⟩; omega) | (simp +contextual; done)))
    (first | (refine ret0 rfl (by repeat' (first | exact trivial | exact rfl | refine ⟨?_, ?_⟩)) (Wk.of ?_); (try simp (etaStruct := .none) only [push_cast, Int.cast_ofNat_Int, Nat.reduceAdd, Nat.reduceSub, Nat.reduceMul, reduceCtorEq, reduceIte, Nat.reduceEqDiff, Nat.reduceLT, Nat.reduceLeDiff, Nat.reduceBEq, Int.reduceToNat, Int.reduceLE, Int.reduceLT]); first | done | (simp [fldE, fldForm, *]; done) | (simp_all [fldE, fldForm]; done)) | (refine ret0 rfl (by repeat' (first | exact trivial | exact rfl | refine ⟨?_, ?_⟩)) ?_; (try simp (etaStruct := .none) only [push_cast, Int.cast_ofNat_Int, Nat.reduceAdd, Nat.reduceSub, Nat.reduceMul, reduceCtorEq, reduceIte, Nat.reduceEqDiff, Nat.reduceLT, Nat.reduceLeDiff, Nat.reduceBEq, Int.reduceToNat, Int.reduceLE, Int.reduceLT]); (try simp [fldE, fldForm, *]); (try (first | exact Wk.refl _ | exact Wk.nil _ | (refine Wk.tup ?_; repeat' (first | exact trivial | exact Wk.refl _ | exact Wk.nil _ | refine ⟨?_, ?_⟩ | (refine Wk.agg ?_)))))))
  · (try simp only [decide_eq_true_eq, decide_eq_false_iff_not, Bool.not_eq_true', Bool.not_eq_false', Bool.or_eq_true, Bool.and_eq_true, Bool.or_eq_false_iff, Bool.and_eq_false_iff, Int.not_lt, Int.not_le, Bool.not_true, Bool.not_false, not_and, not_or] at h1)
    have hb : fldBad f = false := by unfold fldBad; simpa using h1
    have hw : within f.w 1 40 = true ∧ within f.h 1 40 = true := by simpa using h1
    obtain ⟨h3, h4⟩ := hw
    rw [within_iff] at h3 h4
    have hm1 : 0 ≤ f.w * f.h := Int.mul_nonneg (by omega) (by omega)
    have hm2 : f.w * f.h ≤ 40 * 40 := Int.mul_le_mul h3.2 h4.2 (by omega) (by omega)
    (try simp (etaStruct := .none) only [push_cast, Int.cast_ofNat_Int, Nat.reduceAdd, Nat.reduceSub, Nat.reduceMul, reduceCtorEq, reduceIte, Nat.reduceEqDiff, Nat.reduceLT, Nat.reduceLeDiff, Nat.reduceBEq, Int.reduceToNat, Int.reduceLE, Int.reduceLT]); (try simp (disch := omega) only [wrap_in, wk_self, Int.tdiv_eq_ediv_of_nonneg, Int.tmod_eq_emod_of_nonneg]); (repeat (with_reducible refine And.intro ?_ ?_; · first | omega | decide | (simp; done) | (simp; omega) | (intro hh; refine ⟨hh, ?_⟩; omega) | (simp +contextual; done)))
    refine cond_i (fun h2 => ?_) (fun h2 => ?_)
    · (try simp only [decide_eq_true_eq, decide_eq_false_iff_not, Bool.not_eq_true', Bool.not_eq_false', Bool.or_eq_true, Bool.and_eq_true, Bool.or_eq_false_iff, Bool.and_eq_false_iff, Int.not_lt, Int.not_le, Bool.not_true, Bool.not_false, not_and, not_or] at h2)
      (try simp (etaStruct := .none) only [push_cast, Int.cast_ofNat_Int, Nat.reduceAdd, Nat.reduceSub, Nat.reduceMul, reduceCtorEq, reduceIte, Nat.reduceEqDiff, Nat.reduceLT, Nat.reduceLeDiff, Nat.reduceBEq, Int.reduceToNat, Int.reduceLE, Int.reduceLT]); (try simp (disch := omega) only [wrap_in, wk_self, Int.tdiv_eq_ediv_of_nonneg, Int.tmod_eq_emod_of_nonneg]); (repeat (with_reducible refine And.intro ?_ ?_; · first | omega | decide | (simp; done) | (simp; omega) | (intro hh; refine ⟨hh, ?_⟩; omega) | (simp +contextual; done)))
      (first | (refine ret0 rfl (by repeat' (first | exact trivial | exact rfl | refine ⟨?_, ?_⟩)) (Wk.of ?_); (try simp (etaStruct := .none) only [push_cast, Int.cast_ofNat_Int, Nat.reduceAdd, Nat.reduceSub, Nat.reduceMul, reduceCtorEq, reduceIte, Nat.reduceEqDiff, Nat.reduceLT, Nat.reduceLeDiff, Nat.reduceBEq, Int.reduceToNat, Int.reduceLE, Int.reduceLT]); first | done | (simp [fldE, fldForm, *]; done) | (simp_all [fldE, fldForm]; done)) | (refine ret0 rfl (by repeat' (first | exact trivial | exact rfl | refine ⟨?_, ?_⟩)) ?_; (try simp (etaStruct := .none) only [push_cast, Int.cast_ofNat_Int, Nat.reduceAdd, Nat.reduceSub, Nat.reduceMul, reduceCtorEq, reduceIte, Nat.reduceEqDiff, Nat.reduceLT, Nat.reduceLeDiff, Nat.reduceBEq, Int.reduceToNat, Int.reduceLE, Int.reduceLT]); (try simp [fldE, fldForm, *]); (try (first | exact Wk.refl _ | exact Wk.nil _ | (refine Wk.tup ?_; repeat' (first | exact trivial | exact Wk.refl _ | exact Wk.nil _ | refine ⟨?_, ?_⟩ | (refine Wk.agg ?_)))))))
    · (try simp only [decide_eq_true_eq, decide_eq_false_iff_not, Bool.not_eq_true', Bool.not_eq_false', Bool.or_eq_true, Bool.and_eq_true, Bool.or_eq_false_iff, Bool.and_eq_false_iff, Int.not_lt, Int.not_le, Bool.not_true, Bool.not_false, not_and, not_or] at h2)
      (try simp (etaStruct := .none) only [push_cast, Int.cast_ofNat_Int, Nat.reduceAdd, Nat.reduceSub, Nat.reduceMul, reduceCtorEq, reduceIte, Nat.reduceEqDiff, Nat.reduceLT, Nat.reduceLeDiff, Nat.reduceBEq, Int.reduceToNat, Int.reduceLE, Int.reduceLT]); (try simp (disch := omega) only [wrap_in, wk_self, Int.tdiv_eq_ediv_of_nonneg, Int.tmod_eq_emod_of_nonneg]); (repeat (with_reducible refine And.intro ?_ ?_; · first | omega | decide | (simp; done) | (simp; omega) | (intro hh; refine ⟨hh, ?_⟩; omega) | (simp +contextual; done)))
      refine loopI (fun k : Nat => ⟨[(27, I .i64 k), (26, I .i64 f.p.length), (25, .c (.sl 1 (f.p.map i64P)))], [], 0⟩) (fun k : Nat => k ≤ f.p.length ∧ ∀ j, j < k → within (f.p.getD j default) 0 3 = true) (fun k : Nat => f.p.length - k) (0) (⟨Nat.zero_le _, fun j h => by omega⟩) (To.mk [] rfl rfl List.nodup_nil trivial ?_) ?_
      · simp (etaStruct := .none) only [push_cast, Int.cast_ofNat_Int, Nat.reduceAdd, Nat.reduceSub, Nat.reduceMul, reduceCtorEq, reduceIte, Nat.reduceEqDiff, Nat.reduceLT, Nat.reduceLeDiff, Nat.reduceBEq, Int.reduceToNat, Int.reduceLE, Int.reduceLT]
      rintro k ⟨hk, hn⟩
      (try simp (etaStruct := .none) only [push_cast, Int.cast_ofNat_Int, Nat.reduceAdd, Nat.reduceSub, Nat.reduceMul, reduceCtorEq, reduceIte, Nat.reduceEqDiff, Nat.reduceLT, Nat.reduceLeDiff, Nat.reduceBEq, Int.reduceToNat, Int.reduceLE, Int.reduceLT]); (try simp (disch := omega) only [wrap_in, wk_self, Int.tdiv_eq_ediv_of_nonneg, Int.tmod_eq_emod_of_nonneg]); (repeat (with_reducible refine And.intro ?_ ?_; · first | omega | decide | (simp; done) | (simp; omega) | (intro hh; refine ⟨hh, ?_⟩; omega) | (simp +contextual; done)))
      refine cond_i (fun h3 => ?_) (fun h3 => ?_)
      · (try simp only [decide_eq_true_eq, decide_eq_false_iff_not, Bool.not_eq_true', Bool.not_eq_false', Bool.or_eq_true, Bool.and_eq_true, Bool.or_eq_false_iff, Bool.and_eq_false_iff, Int.not_lt, Int.not_le, Bool.not_true, Bool.not_false, not_and, not_or] at h3)
        have hlt : k < f.p.length := by omega
        (try simp (etaStruct := .none) only [push_cast, Int.cast_ofNat_Int, Nat.reduceAdd, Nat.reduceSub, Nat.reduceMul, reduceCtorEq, reduceIte, Nat.reduceEqDiff, Nat.reduceLT, Nat.reduceLeDiff, Nat.reduceBEq, Int.reduceToNat, Int.reduceLE, Int.reduceLT, getD_in _ _ _ hlt, i64P]); (try simp (disch := omega) only [wrap_in, wk_self, Int.tdiv_eq_ediv_of_nonneg, Int.tmod_eq_emod_of_nonneg]); (repeat (with_reducible refine And.intro ?_ ?_; · first | omega | decide | (simp; done) | (simp; omega) | (intro hh; refine ⟨hh, ?_⟩; omega) | (simp +contextual; done))); (try simp (etaStruct := .none) only [push_cast, Int.cast_ofNat_Int, Nat.reduceAdd, Nat.reduceSub, Nat.reduceMul, reduceCtorEq, reduceIte, Nat.reduceEqDiff, Nat.reduceLT, Nat.reduceLeDiff, Nat.reduceBEq, Int.reduceToNat, Int.reduceLE, Int.reduceLT, getD_in _ _ _ hlt, i64P]); (try simp (disch := omega) only [wrap_in, wk_self, Int.tdiv_eq_ediv_of_nonneg, Int.tmod_eq_emod_of_nonneg]); (repeat (with_reducible refine And.intro ?_ ?_; · first | omega | decide | (simp; done) | (simp; omega) | (intro hh; refine ⟨hh, ?_⟩; omega) | (simp +contextual; done)))
        refine callP (between_s (f.p.getD k default) 0 3) (WkL.refl _) ?_
        (try simp (etaStruct := .none) only [push_cast, Int.cast_ofNat_Int, Nat.reduceAdd, Nat.reduceSub, Nat.reduceMul, reduceCtorEq, reduceIte, Nat.reduceEqDiff, Nat.reduceLT, Nat.reduceLeDiff, Nat.reduceBEq, Int.reduceToNat, Int.reduceLE, Int.reduceLT, getD_in _ _ _ hlt, i64P]); (try simp (disch := omega) only [wrap_in, wk_self, Int.tdiv_eq_ediv_of_nonneg, Int.tmod_eq_emod_of_nonneg]); (repeat (with_reducible refine And.intro ?_ ?_; · first | omega | decide | (simp; done) | (simp; omega) | (intro hh; refine ⟨hh, ?_⟩; omega) | (simp +contextual; done))); (try simp (etaStruct := .none) only [push_cast, Int.cast_ofNat_Int, Nat.reduceAdd, Nat.reduceSub, Nat.reduceMul, reduceCtorEq, reduceIte, Nat.reduceEqDiff, Nat.reduceLT, Nat.reduceLeDiff, Nat.reduceBEq, Int.reduceToNat, Int.reduceLE, Int.reduceLT, getD_in _ _ _ hlt, i64P]); (try simp (disch := omega) only [wrap_in, wk_self, Int.tdiv_eq_ediv_of_nonneg, Int.tmod_eq_emod_of_nonneg]); (repeat (with_reducible refine And.intro ?_ ?_; · first | omega | decide | (simp; done) | (simp; omega) | (intro hh; refine ⟨hh, ?_⟩; omega) | (simp +contextual; done)))
        refine cond_i (fun h4 => ?_) (fun h4 => ?_)
        · (try simp only [decide_eq_true_eq, decide_eq_false_iff_not, Bool.not_eq_true', Bool.not_eq_false', Bool.or_eq_true, Bool.and_eq_true, Bool.or_eq_false_iff, Bool.and_eq_false_iff, Int.not_lt, Int.not_le, Bool.not_true, Bool.not_false, not_and, not_or] at h4)
          (try simp (etaStruct := .none) only [push_cast, Int.cast_ofNat_Int, Nat.reduceAdd, Nat.reduceSub, Nat.reduceMul, reduceCtorEq, reduceIte, Nat.reduceEqDiff, Nat.reduceLT, Nat.reduceLeDiff, Nat.reduceBEq, Int.reduceToNat, Int.reduceLE, Int.reduceLT, getD_in _ _ _ hlt, i64P]); (try simp (disch := omega) only [wrap_in, wk_self, Int.tdiv_eq_ediv_of_nonneg, Int.tmod_eq_emod_of_nonneg]); (repeat (with_reducible refine And.intro ?_ ?_; · first | omega | decide | (simp; done) | (simp; omega) | (intro hh; refine ⟨hh, ?_⟩; omega) | (simp +contextual; done))); (try simp (etaStruct := .none) only [push_cast, Int.cast_ofNat_Int, Nat.reduceAdd, Nat.reduceSub, Nat.reduceMul, reduceCtorEq, reduceIte, Nat.reduceEqDiff, Nat.reduceLT, Nat.reduceLeDiff, Nat.reduceBEq, Int.reduceToNat, Int.reduceLE, Int.reduceLT, getD_in _ _ _ hlt, i64P]); (try simp (disch := omega) only [wrap_in, wk_self, Int.tdiv_eq_ediv_of_nonneg, Int.tmod_eq_emod_of_nonneg]); (repeat (with_reducible refine And.intro ?_ ?_; · first | omega | decide | (simp; done) | (simp; omega) | (intro hh; refine ⟨hh, ?_⟩; omega) | (simp +contextual; done)))
          exact ret0 rfl trivial (Wk.of (by rw [fldE_form hb hlt (by simpa using h4)]; rfl))
        · (try simp only [decide_eq_true_eq, decide_eq_false_iff_not, Bool.not_eq_true', Bool.not_eq_false', Bool.or_eq_true, Bool.and_eq_true, Bool.or_eq_false_iff, Bool.and_eq_false_iff, Int.not_lt, Int.not_le, Bool.not_true, Bool.not_false, not_and, not_or] at h4)
          (try simp (etaStruct := .none) only [push_cast, Int.cast_ofNat_Int, Nat.reduceAdd, Nat.reduceSub, Nat.reduceMul, reduceCtorEq, reduceIte, Nat.reduceEqDiff, Nat.reduceLT, Nat.reduceLeDiff, Nat.reduceBEq, Int.reduceToNat, Int.reduceLE, Int.reduceLT, getD_in _ _ _ hlt, i64P]); (try simp (disch := omega) only [wrap_in, wk_self, Int.tdiv_eq_ediv_of_nonneg, Int.tmod_eq_emod_of_nonneg]); (repeat (with_reducible refine And.intro ?_ ?_; · first | omega | decide | (simp; done) | (simp; omega) | (intro hh; refine ⟨hh, ?_⟩; omega) | (simp +contextual; done))); (try simp (etaStruct := .none) only [push_cast, Int.cast_ofNat_Int, Nat.reduceAdd, Nat.reduceSub, Nat.reduceMul, reduceCtorEq, reduceIte, Nat.reduceEqDiff, Nat.reduceLT, Nat.reduceLeDiff, Nat.reduceBEq, Int.reduceToNat, Int.reduceLE, Int.reduceLT, getD_in _ _ _ hlt, i64P]); (try simp (disch := omega) only [wrap_in, wk_self, Int.tdiv_eq_ediv_of_nonneg, Int.tmod_eq_emod_of_nonneg]); (repeat (with_reducible refine And.intro ?_ ?_; · first | omega | decide | (simp; done) | (simp; omega) | (intro hh; refine ⟨hh, ?_⟩; omega) | (simp +contextual; done)))
          refine ⟨k + 1, ⟨by omega, fun j hj => by rcases Nat.lt_or_ge j k with h | h; exact hn j h; rw [show j = k by omega]; simpa using h4⟩, by omega, To.mk [] rfl rfl List.nodup_nil trivial ?_⟩
          · (try simp (etaStruct := .none) only [push_cast, Int.cast_ofNat_Int, Nat.reduceAdd, Nat.reduceSub, Nat.reduceMul, reduceCtorEq, reduceIte, Nat.reduceEqDiff, Nat.reduceLT, Nat.reduceLeDiff, Nat.reduceBEq, Int.reduceToNat, Int.reduceLE, Int.reduceLT, getD_in _ _ _ hlt, i64P]); (try simp (disch := omega) only [wrap_in, wk_self, Int.tdiv_eq_ediv_of_nonneg, Int.tmod_eq_emod_of_nonneg]); (repeat (with_reducible refine And.intro ?_ ?_; · first | omega | decide | (simp; done) | (simp; omega) | (intro hh; refine ⟨hh, ?_⟩; omega) | (simp +contextual; done))); (try simp (etaStruct := .none) only [push_cast, Int.cast_ofNat_Int, Nat.reduceAdd, Nat.reduceSub, Nat.reduceMul, reduceCtorEq, reduceIte, Nat.reduceEqDiff, Nat.reduceLT, Nat.reduceLeDiff, Nat.reduceBEq, Int.reduceToNat, Int.reduceLE, Int.reduceLT, getD_in _ _ _ hlt, i64P]); (try simp (disch := omega) only [wrap_in, wk_self, Int.tdiv_eq_ediv_of_nonneg, Int.tmod_eq_emod_of_nonneg]); (repeat (with_reducible refine And.intro ?_ ?_; · first | omega | decide | (simp; done) | (simp; omega) | (intro hh; refine ⟨hh, ?_⟩; omega) | (simp +contextual; done)))
      · (try simp only [decide_eq_true_eq, decide_eq_false_iff_not, Bool.not_eq_true', Bool.not_eq_false', Bool.or_eq_true, Bool.and_eq_true, Bool.or_eq_false_iff, Bool.and_eq_false_iff, Int.not_lt, Int.not_le, Bool.not_true, Bool.not_false, not_and, not_or] at h3)
        (try simp (etaStruct := .none) only [push_cast, Int.cast_ofNat_Int, Nat.reduceAdd, Nat.reduceSub, Nat.reduceMul, reduceCtorEq, reduceIte, Nat.reduceEqDiff, Nat.reduceLT, Nat.reduceLeDiff, Nat.reduceBEq, Int.reduceToNat, Int.reduceLE, Int.reduceLT]); (try simp (disch := omega) only [wrap_in, wk_self, Int.tdiv_eq_ediv_of_nonneg, Int.tmod_eq_emod_of_nonneg]); (repeat (with_reducible refine And.intro ?_ ?_; · first | omega | decide | (simp; done) | (simp; omega) | (intro hh; refine ⟨hh, ?_⟩; omega) | (simp +contextual; done)))
        exact ret0 rfl trivial (Wk.of (by rw [fldE_fine hb (by omega) (fun j hj => hn j (by omega))]; rfl))
theorem in_s (f : Fld) (c : Cel) (hw : 0 ≤ f.w ∧ f.w ≤ 1000000) (hh : 0 ≤ f.h ∧ f.h ≤ 1000000) : Spec Try.prog 85 [fldA f, celA c] [] (B (inF f c)) [] := by
  refine spec_am Try.func85 rfl rfl mix 19 rfl [.tmp 4] Try.results85 (Nat.le_of_ble_eq_true rfl) ?_
  (try simp (etaStruct := .none) only [push_cast, Int.cast_ofNat_Int, Nat.reduceAdd, Nat.reduceSub, Nat.reduceMul, reduceCtorEq, reduceIte, Nat.reduceEqDiff, Nat.reduceLT, Nat.reduceLeDiff, Nat.reduceBEq, Int.reduceToNat, Int.reduceLE, Int.reduceLT]); (try simp (disch := omega) only [wrap_in, wk_self, Int.tdiv_eq_ediv_of_nonneg, Int.tmod_eq_emod_of_nonneg]); (repeat (with_reducible refine And.intro ?_ ?_; · first | omega | decide | (simp; done) | (simp; omega) | (intro hh; refine ⟨hh, ?_⟩; omega) | (simp +contextual; done)))
  refine callP (between_s c.x 0 (f.w - 1)) (WkL.refl _) ?_
  (try simp (etaStruct := .none) only [push_cast, Int.cast_ofNat_Int, Nat.reduceAdd, Nat.reduceSub, Nat.reduceMul, reduceCtorEq, reduceIte, Nat.reduceEqDiff, Nat.reduceLT, Nat.reduceLeDiff, Nat.reduceBEq, Int.reduceToNat, Int.reduceLE, Int.reduceLT]); (try simp (disch := omega) only [wrap_in, wk_self, Int.tdiv_eq_ediv_of_nonneg, Int.tmod_eq_emod_of_nonneg]); (repeat (with_reducible refine And.intro ?_ ?_; · first | omega | decide | (simp; done) | (simp; omega) | (intro hh; refine ⟨hh, ?_⟩; omega) | (simp +contextual; done)))
  refine gcallP (fun hcc => between_s c.y 0 (f.h - 1)) (WkL.refl _) (by intro hc; (try simp (etaStruct := .none) only [push_cast, Int.cast_ofNat_Int, Nat.reduceAdd, Nat.reduceSub, Nat.reduceMul, reduceCtorEq, reduceIte, Nat.reduceEqDiff, Nat.reduceLT, Nat.reduceLeDiff, Nat.reduceBEq, Int.reduceToNat, Int.reduceLE, Int.reduceLT]); (try simp_all)) ?_
  (try simp (etaStruct := .none) only [push_cast, Int.cast_ofNat_Int, Nat.reduceAdd, Nat.reduceSub, Nat.reduceMul, reduceCtorEq, reduceIte, Nat.reduceEqDiff, Nat.reduceLT, Nat.reduceLeDiff, Nat.reduceBEq, Int.reduceToNat, Int.reduceLE, Int.reduceLT]); (try simp (disch := omega) only [wrap_in, wk_self, Int.tdiv_eq_ediv_of_nonneg, Int.tmod_eq_emod_of_nonneg]); (repeat (with_reducible refine And.intro ?_ ?_; · first | omega | decide | (simp; done) | (simp; omega) | (intro hh; refine ⟨hh, ?_⟩; omega) | (simp +contextual; done)))
  (first | (refine ret0 rfl (by repeat' (first | exact trivial | exact rfl | refine ⟨?_, ?_⟩)) (Wk.of ?_); (try simp (etaStruct := .none) only [push_cast, Int.cast_ofNat_Int, Nat.reduceAdd, Nat.reduceSub, Nat.reduceMul, reduceCtorEq, reduceIte, Nat.reduceEqDiff, Nat.reduceLT, Nat.reduceLeDiff, Nat.reduceBEq, Int.reduceToNat, Int.reduceLE, Int.reduceLT]); first | done | (simp [inF, *]; done) | (simp_all [inF]; done)) | (refine ret0 rfl (by repeat' (first | exact trivial | exact rfl | refine ⟨?_, ?_⟩)) ?_; (try simp (etaStruct := .none) only [push_cast, Int.cast_ofNat_Int, Nat.reduceAdd, Nat.reduceSub, Nat.reduceMul, reduceCtorEq, reduceIte, Nat.reduceEqDiff, Nat.reduceLT, Nat.reduceLeDiff, Nat.reduceBEq, Int.reduceToNat, Int.reduceLE, Int.reduceLT]); (try simp [inF, *]); (try (first | exact Wk.refl _ | exact Wk.nil _ | (refine Wk.tup ?_; repeat' (first | exact trivial | exact Wk.refl _ | exact Wk.nil _ | refine ⟨?_, ?_⟩ | (refine Wk.agg ?_)))))))
theorem place_s (f : Fld) (c : Cel) (h : fldE f = 0) (hc : inF f c = true) : Spec Try.prog 86 [fldA f, celA c] [] (I .i64 (placeV f c)) [] := by
  obtain ⟨i1, i2, i3, i4, i5⟩ := place_ix h hc
  have j1 := inF_iff.1 hc
  obtain ⟨e1, e2, e3, e4⟩ := fldE_ok h
  refine spec_am Try.func86 rfl rfl mix 17 rfl [.tmp 4] Try.results86 (Nat.le_of_ble_eq_true rfl) ?_
  (try simp (etaStruct := .none) only [push_cast, Int.cast_ofNat_Int, Nat.reduceAdd, Nat.reduceSub, Nat.reduceMul, reduceCtorEq, reduceIte, Nat.reduceEqDiff, Nat.reduceLT, Nat.reduceLeDiff, Nat.reduceBEq, Int.reduceToNat, Int.reduceLE, Int.reduceLT, getD_in _ _ _ (show (c.y * f.w + c.x).toNat < f.p.length by omega), i64P]); (try simp (disch := omega) only [wrap_in, wk_self, Int.tdiv_eq_ediv_of_nonneg, Int.tmod_eq_emod_of_nonneg]); (repeat (with_reducible refine And.intro ?_ ?_; · first | omega | decide | (simp; done) | (simp; omega) | (intro hh; refine ⟨hh, ?_⟩; omega) | (simp +contextual; done))); (try simp (etaStruct := .none) only [push_cast, Int.cast_ofNat_Int, Nat.reduceAdd, Nat.reduceSub, Nat.reduceMul, reduceCtorEq, reduceIte, Nat.reduceEqDiff, Nat.reduceLT, Nat.reduceLeDiff, Nat.reduceBEq, Int.reduceToNat, Int.reduceLE, Int.reduceLT, getD_in _ _ _ (show (c.y * f.w + c.x).toNat < f.p.length by omega), i64P]); (try simp (disch := omega) only [wrap_in, wk_self, Int.tdiv_eq_ediv_of_nonneg, Int.tmod_eq_emod_of_nonneg]); (repeat (with_reducible refine And.intro ?_ ?_; · first | omega | decide | (simp; done) | (simp; omega) | (intro hh; refine ⟨hh, ?_⟩; omega) | (simp +contextual; done)))
  (first | (refine ret0 rfl (by repeat' (first | exact trivial | exact rfl | refine ⟨?_, ?_⟩)) (Wk.of ?_); (try simp (etaStruct := .none) only [push_cast, Int.cast_ofNat_Int, Nat.reduceAdd, Nat.reduceSub, Nat.reduceMul, reduceCtorEq, reduceIte, Nat.reduceEqDiff, Nat.reduceLT, Nat.reduceLeDiff, Nat.reduceBEq, Int.reduceToNat, Int.reduceLE, Int.reduceLT]); first | done | (simp [placeV, *]; done) | (simp_all [placeV]; done)) | (refine ret0 rfl (by repeat' (first | exact trivial | exact rfl | refine ⟨?_, ?_⟩)) ?_; (try simp (etaStruct := .none) only [push_cast, Int.cast_ofNat_Int, Nat.reduceAdd, Nat.reduceSub, Nat.reduceMul, reduceCtorEq, reduceIte, Nat.reduceEqDiff, Nat.reduceLT, Nat.reduceLeDiff, Nat.reduceBEq, Int.reduceToNat, Int.reduceLE, Int.reduceLT]); (try simp [placeV, *]); (try (first | exact Wk.refl _ | exact Wk.nil _ | (refine Wk.tup ?_; repeat' (first | exact trivial | exact Wk.refl _ | exact Wk.nil _ | refine ⟨?_, ?_⟩ | (refine Wk.agg ?_)))))))
end Go.Proofs.Ytjkdhjmegoblnaa
namespace Go.Proofs.Ytjkdhjmegoblnaa
set_option linter.all false
open Go.RowKit
set_option maxRecDepth 100000
theorem cel_dec (a b : Cel) : (decide (a.x = b.x) && decide (a.y = b.y)) = decide (a = b) := by
  rw [Bool.eq_iff_iff]; cases a; cases b; simp
theorem cel_eq (l m : List Cel) (hl : l.length ≤ 9223372036854775807) (hm : m.length ≤ 9223372036854775807) : Spec Try.prog 62 [.c (.sl 2 (l.map celP)), .c (.sl 2 (m.map celP))] [] (B (decide (l = m))) [] := by
  refine spec_am Try.func62 rfl rfl mix 26 rfl [.tmp 4] Try.results62 (Nat.le_of_ble_eq_true rfl) ?_
  (try simp (etaStruct := .none) only [push_cast, Int.cast_ofNat_Int, Nat.reduceAdd, Nat.reduceSub, Nat.reduceMul, reduceCtorEq, reduceIte, Nat.reduceEqDiff, Nat.reduceLT, Nat.reduceLeDiff, Nat.reduceBEq, Int.reduceToNat, Int.reduceLE, Int.reduceLT]); (try simp (disch := omega) only [wrap_in, wk_self, Int.tdiv_eq_ediv_of_nonneg, Int.tmod_eq_emod_of_nonneg]); (repeat (with_reducible refine And.intro ?_ ?_; · first | omega | decide | (simp; done) | (simp; omega) | (intro hh; refine ⟨hh, ?_⟩; omega) | (simp +contextual; done)))
  refine cond_i (fun h1 => ?_) (fun h1 => ?_)
  · (try simp only [decide_eq_true_eq, decide_eq_false_iff_not, Bool.not_eq_true', Bool.not_eq_false', Bool.or_eq_true, Bool.and_eq_true, Bool.or_eq_false_iff, Bool.and_eq_false_iff, Int.not_lt, Int.not_le, Bool.not_true, Bool.not_false, not_and, not_or] at h1)
    have e : l ≠ m := by intro e; subst e; simp at h1
    (try simp (etaStruct := .none) only [push_cast, Int.cast_ofNat_Int, Nat.reduceAdd, Nat.reduceSub, Nat.reduceMul, reduceCtorEq, reduceIte, Nat.reduceEqDiff, Nat.reduceLT, Nat.reduceLeDiff, Nat.reduceBEq, Int.reduceToNat, Int.reduceLE, Int.reduceLT]); (try simp (disch := omega) only [wrap_in, wk_self, Int.tdiv_eq_ediv_of_nonneg, Int.tmod_eq_emod_of_nonneg]); (repeat (with_reducible refine And.intro ?_ ?_; · first | omega | decide | (simp; done) | (simp; omega) | (intro hh; refine ⟨hh, ?_⟩; omega) | (simp +contextual; done)))
    exact ret0 rfl trivial (Wk.of (by rw [decide_eq_false e]; rfl))
  · (try simp only [decide_eq_true_eq, decide_eq_false_iff_not, Bool.not_eq_true', Bool.not_eq_false', Bool.or_eq_true, Bool.and_eq_true, Bool.or_eq_false_iff, Bool.and_eq_false_iff, Int.not_lt, Int.not_le, Bool.not_true, Bool.not_false, not_and, not_or] at h1)
    (try simp (etaStruct := .none) only [push_cast, Int.cast_ofNat_Int, Nat.reduceAdd, Nat.reduceSub, Nat.reduceMul, reduceCtorEq, reduceIte, Nat.reduceEqDiff, Nat.reduceLT, Nat.reduceLeDiff, Nat.reduceBEq, Int.reduceToNat, Int.reduceLE, Int.reduceLT]); (try simp (disch := omega) only [wrap_in, wk_self, Int.tdiv_eq_ediv_of_nonneg, Int.tmod_eq_emod_of_nonneg]); (repeat (with_reducible refine And.intro ?_ ?_; · first | omega | decide | (simp; done) | (simp; omega) | (intro hh; refine ⟨hh, ?_⟩; omega) | (simp +contextual; done)))
    refine loopI (fun k : Nat => ⟨[(13, I .i64 k), (12, I .i64 l.length), (1, .c (.sl 2 (m.map celP))), (0, .c (.sl 2 (l.map celP)))], [], 0⟩) (fun k : Nat => k ≤ l.length ∧ ∀ j, j < k → l.getD j default = m.getD j default) (fun k : Nat => l.length - k) (0) (⟨Nat.zero_le _, fun j h => by omega⟩) (To.mk [] rfl rfl List.nodup_nil trivial ?_) ?_
    · simp (etaStruct := .none) only [push_cast, Int.cast_ofNat_Int, Nat.reduceAdd, Nat.reduceSub, Nat.reduceMul, reduceCtorEq, reduceIte, Nat.reduceEqDiff, Nat.reduceLT, Nat.reduceLeDiff, Nat.reduceBEq, Int.reduceToNat, Int.reduceLE, Int.reduceLT]
    rintro k ⟨hk, hn⟩
    (try simp (etaStruct := .none) only [push_cast, Int.cast_ofNat_Int, Nat.reduceAdd, Nat.reduceSub, Nat.reduceMul, reduceCtorEq, reduceIte, Nat.reduceEqDiff, Nat.reduceLT, Nat.reduceLeDiff, Nat.reduceBEq, Int.reduceToNat, Int.reduceLE, Int.reduceLT]); (try simp (disch := omega) only [wrap_in, wk_self, Int.tdiv_eq_ediv_of_nonneg, Int.tmod_eq_emod_of_nonneg]); (repeat (with_reducible refine And.intro ?_ ?_; · first | omega | decide | (simp; done) | (simp; omega) | (intro hh; refine ⟨hh, ?_⟩; omega) | (simp +contextual; done)))
    refine cond_i (fun h2 => ?_) (fun h2 => ?_)
    · (try simp only [decide_eq_true_eq, decide_eq_false_iff_not, Bool.not_eq_true', Bool.not_eq_false', Bool.or_eq_true, Bool.and_eq_true, Bool.or_eq_false_iff, Bool.and_eq_false_iff, Int.not_lt, Int.not_le, Bool.not_true, Bool.not_false, not_and, not_or] at h2)
      have hlt : k < l.length := by omega
      have hlt2 : k < m.length := by omega
      (try simp (etaStruct := .none) only [push_cast, Int.cast_ofNat_Int, Nat.reduceAdd, Nat.reduceSub, Nat.reduceMul, reduceCtorEq, reduceIte, Nat.reduceEqDiff, Nat.reduceLT, Nat.reduceLeDiff, Nat.reduceBEq, Int.reduceToNat, Int.reduceLE, Int.reduceLT, getD_in _ _ _ hlt, getD_in _ _ _ hlt2, celP, cel_dec]); (try simp (disch := omega) only [wrap_in, wk_self, Int.tdiv_eq_ediv_of_nonneg, Int.tmod_eq_emod_of_nonneg]); (repeat (with_reducible refine And.intro ?_ ?_; · first | omega | decide | (simp; done) | (simp; omega) | (intro hh; refine ⟨hh, ?_⟩; omega) | (simp +contextual; done))); (try simp (etaStruct := .none) only [push_cast, Int.cast_ofNat_Int, Nat.reduceAdd, Nat.reduceSub, Nat.reduceMul, reduceCtorEq, reduceIte, Nat.reduceEqDiff, Nat.reduceLT, Nat.reduceLeDiff, Nat.reduceBEq, Int.reduceToNat, Int.reduceLE, Int.reduceLT, getD_in _ _ _ hlt, getD_in _ _ _ hlt2, celP, cel_dec]); (try simp (disch := omega) only [wrap_in, wk_self, Int.tdiv_eq_ediv_of_nonneg, Int.tmod_eq_emod_of_nonneg]); (repeat (with_reducible refine And.intro ?_ ?_; · first | omega | decide | (simp; done) | (simp; omega) | (intro hh; refine ⟨hh, ?_⟩; omega) | (simp +contextual; done)))
      (try (refine ⟨by kernel_rfl, ?_⟩))
      (try simp (etaStruct := .none) only [push_cast, Int.cast_ofNat_Int, Nat.reduceAdd, Nat.reduceSub, Nat.reduceMul, reduceCtorEq, reduceIte, Nat.reduceEqDiff, Nat.reduceLT, Nat.reduceLeDiff, Nat.reduceBEq, Int.reduceToNat, Int.reduceLE, Int.reduceLT, getD_in _ _ _ hlt, getD_in _ _ _ hlt2, celP, cel_dec]); (try simp (disch := omega) only [wrap_in, wk_self, Int.tdiv_eq_ediv_of_nonneg, Int.tmod_eq_emod_of_nonneg]); (repeat (with_reducible refine And.intro ?_ ?_; · first | omega | decide | (simp; done) | (simp; omega) | (intro hh; refine ⟨hh, ?_⟩; omega) | (simp +contextual; done))); (try simp (etaStruct := .none) only [push_cast, Int.cast_ofNat_Int, Nat.reduceAdd, Nat.reduceSub, Nat.reduceMul, reduceCtorEq, reduceIte, Nat.reduceEqDiff, Nat.reduceLT, Nat.reduceLeDiff, Nat.reduceBEq, Int.reduceToNat, Int.reduceLE, Int.reduceLT, getD_in _ _ _ hlt, getD_in _ _ _ hlt2, celP, cel_dec]); (try simp (disch := omega) only [wrap_in, wk_self, Int.tdiv_eq_ediv_of_nonneg, Int.tmod_eq_emod_of_nonneg]); (repeat (with_reducible refine And.intro ?_ ?_; · first | omega | decide | (simp; done) | (simp; omega) | (intro hh; refine ⟨hh, ?_⟩; omega) | (simp +contextual; done)))
      refine cond_i (fun h3 => ?_) (fun h3 => ?_)
      · (try simp only [decide_eq_true_eq, decide_eq_false_iff_not, Bool.not_eq_true', Bool.not_eq_false', Bool.or_eq_true, Bool.and_eq_true, Bool.or_eq_false_iff, Bool.and_eq_false_iff, Int.not_lt, Int.not_le, Bool.not_true, Bool.not_false, not_and, not_or] at h3)
        have e : l ≠ m := by intro e; subst e; simp at h3
        (try simp (etaStruct := .none) only [push_cast, Int.cast_ofNat_Int, Nat.reduceAdd, Nat.reduceSub, Nat.reduceMul, reduceCtorEq, reduceIte, Nat.reduceEqDiff, Nat.reduceLT, Nat.reduceLeDiff, Nat.reduceBEq, Int.reduceToNat, Int.reduceLE, Int.reduceLT, getD_in _ _ _ hlt, getD_in _ _ _ hlt2, celP, cel_dec]); (try simp (disch := omega) only [wrap_in, wk_self, Int.tdiv_eq_ediv_of_nonneg, Int.tmod_eq_emod_of_nonneg]); (repeat (with_reducible refine And.intro ?_ ?_; · first | omega | decide | (simp; done) | (simp; omega) | (intro hh; refine ⟨hh, ?_⟩; omega) | (simp +contextual; done))); (try simp (etaStruct := .none) only [push_cast, Int.cast_ofNat_Int, Nat.reduceAdd, Nat.reduceSub, Nat.reduceMul, reduceCtorEq, reduceIte, Nat.reduceEqDiff, Nat.reduceLT, Nat.reduceLeDiff, Nat.reduceBEq, Int.reduceToNat, Int.reduceLE, Int.reduceLT, getD_in _ _ _ hlt, getD_in _ _ _ hlt2, celP, cel_dec]); (try simp (disch := omega) only [wrap_in, wk_self, Int.tdiv_eq_ediv_of_nonneg, Int.tmod_eq_emod_of_nonneg]); (repeat (with_reducible refine And.intro ?_ ?_; · first | omega | decide | (simp; done) | (simp; omega) | (intro hh; refine ⟨hh, ?_⟩; omega) | (simp +contextual; done)))
        exact ret0 rfl trivial (Wk.of (by rw [decide_eq_false e]; rfl))
      · (try simp only [decide_eq_true_eq, decide_eq_false_iff_not, Bool.not_eq_true', Bool.not_eq_false', Bool.or_eq_true, Bool.and_eq_true, Bool.or_eq_false_iff, Bool.and_eq_false_iff, Int.not_lt, Int.not_le, Bool.not_true, Bool.not_false, not_and, not_or] at h3)
        (try simp (etaStruct := .none) only [push_cast, Int.cast_ofNat_Int, Nat.reduceAdd, Nat.reduceSub, Nat.reduceMul, reduceCtorEq, reduceIte, Nat.reduceEqDiff, Nat.reduceLT, Nat.reduceLeDiff, Nat.reduceBEq, Int.reduceToNat, Int.reduceLE, Int.reduceLT, getD_in _ _ _ hlt, getD_in _ _ _ hlt2, celP, cel_dec]); (try simp (disch := omega) only [wrap_in, wk_self, Int.tdiv_eq_ediv_of_nonneg, Int.tmod_eq_emod_of_nonneg]); (repeat (with_reducible refine And.intro ?_ ?_; · first | omega | decide | (simp; done) | (simp; omega) | (intro hh; refine ⟨hh, ?_⟩; omega) | (simp +contextual; done))); (try simp (etaStruct := .none) only [push_cast, Int.cast_ofNat_Int, Nat.reduceAdd, Nat.reduceSub, Nat.reduceMul, reduceCtorEq, reduceIte, Nat.reduceEqDiff, Nat.reduceLT, Nat.reduceLeDiff, Nat.reduceBEq, Int.reduceToNat, Int.reduceLE, Int.reduceLT, getD_in _ _ _ hlt, getD_in _ _ _ hlt2, celP, cel_dec]); (try simp (disch := omega) only [wrap_in, wk_self, Int.tdiv_eq_ediv_of_nonneg, Int.tmod_eq_emod_of_nonneg]); (repeat (with_reducible refine And.intro ?_ ?_; · first | omega | decide | (simp; done) | (simp; omega) | (intro hh; refine ⟨hh, ?_⟩; omega) | (simp +contextual; done)))
        refine ⟨k + 1, ⟨by omega, fun j hj => by rcases Nat.lt_or_ge j k with h | h; exact hn j h; rw [show j = k by omega]; simpa using h3⟩, by omega, To.mk [] rfl rfl List.nodup_nil trivial ?_⟩
        · (try simp (etaStruct := .none) only [push_cast, Int.cast_ofNat_Int, Nat.reduceAdd, Nat.reduceSub, Nat.reduceMul, reduceCtorEq, reduceIte, Nat.reduceEqDiff, Nat.reduceLT, Nat.reduceLeDiff, Nat.reduceBEq, Int.reduceToNat, Int.reduceLE, Int.reduceLT, getD_in _ _ _ hlt, getD_in _ _ _ hlt2, celP, cel_dec]); (try simp (disch := omega) only [wrap_in, wk_self, Int.tdiv_eq_ediv_of_nonneg, Int.tmod_eq_emod_of_nonneg]); (repeat (with_reducible refine And.intro ?_ ?_; · first | omega | decide | (simp; done) | (simp; omega) | (intro hh; refine ⟨hh, ?_⟩; omega) | (simp +contextual; done))); (try simp (etaStruct := .none) only [push_cast, Int.cast_ofNat_Int, Nat.reduceAdd, Nat.reduceSub, Nat.reduceMul, reduceCtorEq, reduceIte, Nat.reduceEqDiff, Nat.reduceLT, Nat.reduceLeDiff, Nat.reduceBEq, Int.reduceToNat, Int.reduceLE, Int.reduceLT, getD_in _ _ _ hlt, getD_in _ _ _ hlt2, celP, cel_dec]); (try simp (disch := omega) only [wrap_in, wk_self, Int.tdiv_eq_ediv_of_nonneg, Int.tmod_eq_emod_of_nonneg]); (repeat (with_reducible refine And.intro ?_ ?_; · first | omega | decide | (simp; done) | (simp; omega) | (intro hh; refine ⟨hh, ?_⟩; omega) | (simp +contextual; done)))
    · (try simp only [decide_eq_true_eq, decide_eq_false_iff_not, Bool.not_eq_true', Bool.not_eq_false', Bool.or_eq_true, Bool.and_eq_true, Bool.or_eq_false_iff, Bool.and_eq_false_iff, Int.not_lt, Int.not_le, Bool.not_true, Bool.not_false, not_and, not_or] at h2)
      have e : l = m := by
        refine List.ext_getElem (by omega) fun i i1 i2 => ?_
        have := hn i (by omega)
        rwa [getD_at _ _ i1, getD_at _ _ i2] at this
      (try simp (etaStruct := .none) only [push_cast, Int.cast_ofNat_Int, Nat.reduceAdd, Nat.reduceSub, Nat.reduceMul, reduceCtorEq, reduceIte, Nat.reduceEqDiff, Nat.reduceLT, Nat.reduceLeDiff, Nat.reduceBEq, Int.reduceToNat, Int.reduceLE, Int.reduceLT]); (try simp (disch := omega) only [wrap_in, wk_self, Int.tdiv_eq_ediv_of_nonneg, Int.tmod_eq_emod_of_nonneg]); (repeat (with_reducible refine And.intro ?_ ?_; · first | omega | decide | (simp; done) | (simp; omega) | (intro hh; refine ⟨hh, ?_⟩; omega) | (simp +contextual; done)))
      exact ret0 rfl trivial (Wk.of (by rw [decide_eq_true e]; rfl))
theorem int_eq (l m : List Int) (hl : l.length ≤ 9223372036854775807) (hm : m.length ≤ 9223372036854775807) : Spec Try.prog 27 [.c (.sl 1 (l.map i64P)), .c (.sl 1 (m.map i64P))] [] (B (decide (l = m))) [] := by
  refine spec_am Try.func27 rfl rfl mix 26 rfl [.tmp 4] Try.results27 (Nat.le_of_ble_eq_true rfl) ?_
  (try simp (etaStruct := .none) only [push_cast, Int.cast_ofNat_Int, Nat.reduceAdd, Nat.reduceSub, Nat.reduceMul, reduceCtorEq, reduceIte, Nat.reduceEqDiff, Nat.reduceLT, Nat.reduceLeDiff, Nat.reduceBEq, Int.reduceToNat, Int.reduceLE, Int.reduceLT]); (try simp (disch := omega) only [wrap_in, wk_self, Int.tdiv_eq_ediv_of_nonneg, Int.tmod_eq_emod_of_nonneg]); (repeat (with_reducible refine And.intro ?_ ?_; · first | omega | decide | (simp; done) | (simp; omega) | (intro hh; refine ⟨hh, ?_⟩; omega) | (simp +contextual; done)))
  refine cond_i (fun h1 => ?_) (fun h1 => ?_)
  · (try simp only [decide_eq_true_eq, decide_eq_false_iff_not, Bool.not_eq_true', Bool.not_eq_false', Bool.or_eq_true, Bool.and_eq_true, Bool.or_eq_false_iff, Bool.and_eq_false_iff, Int.not_lt, Int.not_le, Bool.not_true, Bool.not_false, not_and, not_or] at h1)
    have e : l ≠ m := by intro e; subst e; simp at h1
    (try simp (etaStruct := .none) only [push_cast, Int.cast_ofNat_Int, Nat.reduceAdd, Nat.reduceSub, Nat.reduceMul, reduceCtorEq, reduceIte, Nat.reduceEqDiff, Nat.reduceLT, Nat.reduceLeDiff, Nat.reduceBEq, Int.reduceToNat, Int.reduceLE, Int.reduceLT]); (try simp (disch := omega) only [wrap_in, wk_self, Int.tdiv_eq_ediv_of_nonneg, Int.tmod_eq_emod_of_nonneg]); (repeat (with_reducible refine And.intro ?_ ?_; · first | omega | decide | (simp; done) | (simp; omega) | (intro hh; refine ⟨hh, ?_⟩; omega) | (simp +contextual; done)))
    exact ret0 rfl trivial (Wk.of (by rw [decide_eq_false e]; rfl))
  · (try simp only [decide_eq_true_eq, decide_eq_false_iff_not, Bool.not_eq_true', Bool.not_eq_false', Bool.or_eq_true, Bool.and_eq_true, Bool.or_eq_false_iff, Bool.and_eq_false_iff, Int.not_lt, Int.not_le, Bool.not_true, Bool.not_false, not_and, not_or] at h1)
    (try simp (etaStruct := .none) only [push_cast, Int.cast_ofNat_Int, Nat.reduceAdd, Nat.reduceSub, Nat.reduceMul, reduceCtorEq, reduceIte, Nat.reduceEqDiff, Nat.reduceLT, Nat.reduceLeDiff, Nat.reduceBEq, Int.reduceToNat, Int.reduceLE, Int.reduceLT]); (try simp (disch := omega) only [wrap_in, wk_self, Int.tdiv_eq_ediv_of_nonneg, Int.tmod_eq_emod_of_nonneg]); (repeat (with_reducible refine And.intro ?_ ?_; · first | omega | decide | (simp; done) | (simp; omega) | (intro hh; refine ⟨hh, ?_⟩; omega) | (simp +contextual; done)))
    refine loopI (fun k : Nat => ⟨[(13, I .i64 k), (12, I .i64 l.length), (1, .c (.sl 1 (m.map i64P))), (0, .c (.sl 1 (l.map i64P)))], [], 0⟩) (fun k : Nat => k ≤ l.length ∧ ∀ j, j < k → l.getD j default = m.getD j default) (fun k : Nat => l.length - k) (0) (⟨Nat.zero_le _, fun j h => by omega⟩) (To.mk [] rfl rfl List.nodup_nil trivial ?_) ?_
    · simp (etaStruct := .none) only [push_cast, Int.cast_ofNat_Int, Nat.reduceAdd, Nat.reduceSub, Nat.reduceMul, reduceCtorEq, reduceIte, Nat.reduceEqDiff, Nat.reduceLT, Nat.reduceLeDiff, Nat.reduceBEq, Int.reduceToNat, Int.reduceLE, Int.reduceLT]
    rintro k ⟨hk, hn⟩
    (try simp (etaStruct := .none) only [push_cast, Int.cast_ofNat_Int, Nat.reduceAdd, Nat.reduceSub, Nat.reduceMul, reduceCtorEq, reduceIte, Nat.reduceEqDiff, Nat.reduceLT, Nat.reduceLeDiff, Nat.reduceBEq, Int.reduceToNat, Int.reduceLE, Int.reduceLT]); (try simp (disch := omega) only [wrap_in, wk_self, Int.tdiv_eq_ediv_of_nonneg, Int.tmod_eq_emod_of_nonneg]); (repeat (with_reducible refine And.intro ?_ ?_; · first | omega | decide | (simp; done) | (simp; omega) | (intro hh; refine ⟨hh, ?_⟩; omega) | (simp +contextual; done)))
    refine cond_i (fun h2 => ?_) (fun h2 => ?_)
    · (try simp only [decide_eq_true_eq, decide_eq_false_iff_not, Bool.not_eq_true', Bool.not_eq_false', Bool.or_eq_true, Bool.and_eq_true, Bool.or_eq_false_iff, Bool.and_eq_false_iff, Int.not_lt, Int.not_le, Bool.not_true, Bool.not_false, not_and, not_or] at h2)
      have hlt : k < l.length := by omega
      have hlt2 : k < m.length := by omega
      (try simp (etaStruct := .none) only [push_cast, Int.cast_ofNat_Int, Nat.reduceAdd, Nat.reduceSub, Nat.reduceMul, reduceCtorEq, reduceIte, Nat.reduceEqDiff, Nat.reduceLT, Nat.reduceLeDiff, Nat.reduceBEq, Int.reduceToNat, Int.reduceLE, Int.reduceLT, getD_in _ _ _ hlt, getD_in _ _ _ hlt2, i64P, decide_not]); (try simp (disch := omega) only [wrap_in, wk_self, Int.tdiv_eq_ediv_of_nonneg, Int.tmod_eq_emod_of_nonneg]); (repeat (with_reducible refine And.intro ?_ ?_; · first | omega | decide | (simp; done) | (simp; omega) | (intro hh; refine ⟨hh, ?_⟩; omega) | (simp +contextual; done))); (try simp (etaStruct := .none) only [push_cast, Int.cast_ofNat_Int, Nat.reduceAdd, Nat.reduceSub, Nat.reduceMul, reduceCtorEq, reduceIte, Nat.reduceEqDiff, Nat.reduceLT, Nat.reduceLeDiff, Nat.reduceBEq, Int.reduceToNat, Int.reduceLE, Int.reduceLT, getD_in _ _ _ hlt, getD_in _ _ _ hlt2, i64P, decide_not]); (try simp (disch := omega) only [wrap_in, wk_self, Int.tdiv_eq_ediv_of_nonneg, Int.tmod_eq_emod_of_nonneg]); (repeat (with_reducible refine And.intro ?_ ?_; · first | omega | decide | (simp; done) | (simp; omega) | (intro hh; refine ⟨hh, ?_⟩; omega) | (simp +contextual; done)))
      (try (refine ⟨by kernel_rfl, ?_⟩))
      (try simp (etaStruct := .none) only [push_cast, Int.cast_ofNat_Int, Nat.reduceAdd, Nat.reduceSub, Nat.reduceMul, reduceCtorEq, reduceIte, Nat.reduceEqDiff, Nat.reduceLT, Nat.reduceLeDiff, Nat.reduceBEq, Int.reduceToNat, Int.reduceLE, Int.reduceLT, getD_in _ _ _ hlt, getD_in _ _ _ hlt2, i64P, decide_not]); (try simp (disch := omega) only [wrap_in, wk_self, Int.tdiv_eq_ediv_of_nonneg, Int.tmod_eq_emod_of_nonneg]); (repeat (with_reducible refine And.intro ?_ ?_; · first | omega | decide | (simp; done) | (simp; omega) | (intro hh; refine ⟨hh, ?_⟩; omega) | (simp +contextual; done))); (try simp (etaStruct := .none) only [push_cast, Int.cast_ofNat_Int, Nat.reduceAdd, Nat.reduceSub, Nat.reduceMul, reduceCtorEq, reduceIte, Nat.reduceEqDiff, Nat.reduceLT, Nat.reduceLeDiff, Nat.reduceBEq, Int.reduceToNat, Int.reduceLE, Int.reduceLT, getD_in _ _ _ hlt, getD_in _ _ _ hlt2, i64P, decide_not]); (try simp (disch := omega) only [wrap_in, wk_self, Int.tdiv_eq_ediv_of_nonneg, Int.tmod_eq_emod_of_nonneg]); (repeat (with_reducible refine And.intro ?_ ?_; · first | omega | decide | (simp; done) | (simp; omega) | (intro hh; refine ⟨hh, ?_⟩; omega) | (simp +contextual; done)))
      refine cond_i (fun h3 => ?_) (fun h3 => ?_)
      · (try simp only [decide_eq_true_eq, decide_eq_false_iff_not, Bool.not_eq_true', Bool.not_eq_false', Bool.or_eq_true, Bool.and_eq_true, Bool.or_eq_false_iff, Bool.and_eq_false_iff, Int.not_lt, Int.not_le, Bool.not_true, Bool.not_false, not_and, not_or] at h3)
        have e : l ≠ m := by intro e; subst e; simp at h3
        (try simp (etaStruct := .none) only [push_cast, Int.cast_ofNat_Int, Nat.reduceAdd, Nat.reduceSub, Nat.reduceMul, reduceCtorEq, reduceIte, Nat.reduceEqDiff, Nat.reduceLT, Nat.reduceLeDiff, Nat.reduceBEq, Int.reduceToNat, Int.reduceLE, Int.reduceLT, getD_in _ _ _ hlt, getD_in _ _ _ hlt2, i64P, decide_not]); (try simp (disch := omega) only [wrap_in, wk_self, Int.tdiv_eq_ediv_of_nonneg, Int.tmod_eq_emod_of_nonneg]); (repeat (with_reducible refine And.intro ?_ ?_; · first | omega | decide | (simp; done) | (simp; omega) | (intro hh; refine ⟨hh, ?_⟩; omega) | (simp +contextual; done))); (try simp (etaStruct := .none) only [push_cast, Int.cast_ofNat_Int, Nat.reduceAdd, Nat.reduceSub, Nat.reduceMul, reduceCtorEq, reduceIte, Nat.reduceEqDiff, Nat.reduceLT, Nat.reduceLeDiff, Nat.reduceBEq, Int.reduceToNat, Int.reduceLE, Int.reduceLT, getD_in _ _ _ hlt, getD_in _ _ _ hlt2, i64P, decide_not]); (try simp (disch := omega) only [wrap_in, wk_self, Int.tdiv_eq_ediv_of_nonneg, Int.tmod_eq_emod_of_nonneg]); (repeat (with_reducible refine And.intro ?_ ?_; · first | omega | decide | (simp; done) | (simp; omega) | (intro hh; refine ⟨hh, ?_⟩; omega) | (simp +contextual; done)))
        exact ret0 rfl trivial (Wk.of (by rw [decide_eq_false e]; rfl))
      · (try simp only [decide_eq_true_eq, decide_eq_false_iff_not, Bool.not_eq_true', Bool.not_eq_false', Bool.or_eq_true, Bool.and_eq_true, Bool.or_eq_false_iff, Bool.and_eq_false_iff, Int.not_lt, Int.not_le, Bool.not_true, Bool.not_false, not_and, not_or] at h3)
        (try simp (etaStruct := .none) only [push_cast, Int.cast_ofNat_Int, Nat.reduceAdd, Nat.reduceSub, Nat.reduceMul, reduceCtorEq, reduceIte, Nat.reduceEqDiff, Nat.reduceLT, Nat.reduceLeDiff, Nat.reduceBEq, Int.reduceToNat, Int.reduceLE, Int.reduceLT, getD_in _ _ _ hlt, getD_in _ _ _ hlt2, i64P, decide_not]); (try simp (disch := omega) only [wrap_in, wk_self, Int.tdiv_eq_ediv_of_nonneg, Int.tmod_eq_emod_of_nonneg]); (repeat (with_reducible refine And.intro ?_ ?_; · first | omega | decide | (simp; done) | (simp; omega) | (intro hh; refine ⟨hh, ?_⟩; omega) | (simp +contextual; done))); (try simp (etaStruct := .none) only [push_cast, Int.cast_ofNat_Int, Nat.reduceAdd, Nat.reduceSub, Nat.reduceMul, reduceCtorEq, reduceIte, Nat.reduceEqDiff, Nat.reduceLT, Nat.reduceLeDiff, Nat.reduceBEq, Int.reduceToNat, Int.reduceLE, Int.reduceLT, getD_in _ _ _ hlt, getD_in _ _ _ hlt2, i64P, decide_not]); (try simp (disch := omega) only [wrap_in, wk_self, Int.tdiv_eq_ediv_of_nonneg, Int.tmod_eq_emod_of_nonneg]); (repeat (with_reducible refine And.intro ?_ ?_; · first | omega | decide | (simp; done) | (simp; omega) | (intro hh; refine ⟨hh, ?_⟩; omega) | (simp +contextual; done)))
        refine ⟨k + 1, ⟨by omega, fun j hj => by rcases Nat.lt_or_ge j k with h | h; exact hn j h; rw [show j = k by omega]; simpa using h3⟩, by omega, To.mk [] rfl rfl List.nodup_nil trivial ?_⟩
        · (try simp (etaStruct := .none) only [push_cast, Int.cast_ofNat_Int, Nat.reduceAdd, Nat.reduceSub, Nat.reduceMul, reduceCtorEq, reduceIte, Nat.reduceEqDiff, Nat.reduceLT, Nat.reduceLeDiff, Nat.reduceBEq, Int.reduceToNat, Int.reduceLE, Int.reduceLT, getD_in _ _ _ hlt, getD_in _ _ _ hlt2, i64P, decide_not]); (try simp (disch := omega) only [wrap_in, wk_self, Int.tdiv_eq_ediv_of_nonneg, Int.tmod_eq_emod_of_nonneg]); (repeat (with_reducible refine And.intro ?_ ?_; · first | omega | decide | (simp; done) | (simp; omega) | (intro hh; refine ⟨hh, ?_⟩; omega) | (simp +contextual; done))); (try simp (etaStruct := .none) only [push_cast, Int.cast_ofNat_Int, Nat.reduceAdd, Nat.reduceSub, Nat.reduceMul, reduceCtorEq, reduceIte, Nat.reduceEqDiff, Nat.reduceLT, Nat.reduceLeDiff, Nat.reduceBEq, Int.reduceToNat, Int.reduceLE, Int.reduceLT, getD_in _ _ _ hlt, getD_in _ _ _ hlt2, i64P, decide_not]); (try simp (disch := omega) only [wrap_in, wk_self, Int.tdiv_eq_ediv_of_nonneg, Int.tmod_eq_emod_of_nonneg]); (repeat (with_reducible refine And.intro ?_ ?_; · first | omega | decide | (simp; done) | (simp; omega) | (intro hh; refine ⟨hh, ?_⟩; omega) | (simp +contextual; done)))
    · (try simp only [decide_eq_true_eq, decide_eq_false_iff_not, Bool.not_eq_true', Bool.not_eq_false', Bool.or_eq_true, Bool.and_eq_true, Bool.or_eq_false_iff, Bool.and_eq_false_iff, Int.not_lt, Int.not_le, Bool.not_true, Bool.not_false, not_and, not_or] at h2)
      have e : l = m := by
        refine List.ext_getElem (by omega) fun i i1 i2 => ?_
        have := hn i (by omega)
        rwa [getD_at _ _ i1, getD_at _ _ i2] at this
      (try simp (etaStruct := .none) only [push_cast, Int.cast_ofNat_Int, Nat.reduceAdd, Nat.reduceSub, Nat.reduceMul, reduceCtorEq, reduceIte, Nat.reduceEqDiff, Nat.reduceLT, Nat.reduceLeDiff, Nat.reduceBEq, Int.reduceToNat, Int.reduceLE, Int.reduceLT]); (try simp (disch := omega) only [wrap_in, wk_self, Int.tdiv_eq_ediv_of_nonneg, Int.tmod_eq_emod_of_nonneg]); (repeat (with_reducible refine And.intro ?_ ?_; · first | omega | decide | (simp; done) | (simp; omega) | (intro hh; refine ⟨hh, ?_⟩; omega) | (simp +contextual; done)))
      exact ret0 rfl trivial (Wk.of (by rw [decide_eq_true e]; rfl))
end Go.Proofs.Ytjkdhjmegoblnaa
namespace Go.Proofs.Ytjkdhjmegoblnaa
set_option linter.all false
open Go.RowKit
set_option maxRecDepth 100000
set_option maxHeartbeats 1000000
def groundV (f : Fld) (c : Cel) : Bool := inF f c && !decide (placeV f c = 1)
theorem ground_s (f : Fld) (c : Cel) (h : fldE f = 0) : Spec Try.prog 91 [fldA f, celA c] [] (B (groundV f c)) [] := by
  have hk := fldE_ok h
  refine spec_am Try.func91 rfl rfl mix 14 rfl [.tmp 4] Try.results91 (Nat.le_of_ble_eq_true rfl) ?_
  (try simp (etaStruct := .none) only [push_cast, Int.cast_ofNat_Int, Nat.reduceAdd, Nat.reduceSub, Nat.reduceMul, reduceCtorEq, reduceIte, Nat.reduceEqDiff, Nat.reduceLT, Nat.reduceLeDiff, Nat.reduceBEq, Int.reduceToNat, Int.reduceLE, Int.reduceLT]); (try simp (disch := omega) only [wrap_in, wk_self, Int.tdiv_eq_ediv_of_nonneg, Int.tmod_eq_emod_of_nonneg]); (repeat (with_reducible refine And.intro ?_ ?_; · first | omega | decide | (simp; done) | (simp; omega) | (intro hh; refine ⟨hh, ?_⟩; omega) | (simp +contextual; done)))
  refine callP (in_s f c (by omega) (by omega)) (WkL.refl _) ?_
  (try simp (etaStruct := .none) only [push_cast, Int.cast_ofNat_Int, Nat.reduceAdd, Nat.reduceSub, Nat.reduceMul, reduceCtorEq, reduceIte, Nat.reduceEqDiff, Nat.reduceLT, Nat.reduceLeDiff, Nat.reduceBEq, Int.reduceToNat, Int.reduceLE, Int.reduceLT]); (try simp (disch := omega) only [wrap_in, wk_self, Int.tdiv_eq_ediv_of_nonneg, Int.tmod_eq_emod_of_nonneg]); (repeat (with_reducible refine And.intro ?_ ?_; · first | omega | decide | (simp; done) | (simp; omega) | (intro hh; refine ⟨hh, ?_⟩; omega) | (simp +contextual; done)))
  refine gcallP (fun hcc => place_s f c h hcc) (WkL.refl _) (by intro hc; (try simp (etaStruct := .none) only [push_cast, Int.cast_ofNat_Int, Nat.reduceAdd, Nat.reduceSub, Nat.reduceMul, reduceCtorEq, reduceIte, Nat.reduceEqDiff, Nat.reduceLT, Nat.reduceLeDiff, Nat.reduceBEq, Int.reduceToNat, Int.reduceLE, Int.reduceLT]); (try simp_all)) ?_
  (try simp (etaStruct := .none) only [push_cast, Int.cast_ofNat_Int, Nat.reduceAdd, Nat.reduceSub, Nat.reduceMul, reduceCtorEq, reduceIte, Nat.reduceEqDiff, Nat.reduceLT, Nat.reduceLeDiff, Nat.reduceBEq, Int.reduceToNat, Int.reduceLE, Int.reduceLT]); (try simp (disch := omega) only [wrap_in, wk_self, Int.tdiv_eq_ediv_of_nonneg, Int.tmod_eq_emod_of_nonneg]); (repeat (with_reducible refine And.intro ?_ ?_; · first | omega | decide | (simp; done) | (simp; omega) | (intro hh; refine ⟨hh, ?_⟩; omega) | (simp +contextual; done)))
  (first | (refine ret0 rfl (by repeat' (first | exact trivial | exact rfl | refine ⟨?_, ?_⟩)) (Wk.of ?_); (try simp (etaStruct := .none) only [push_cast, Int.cast_ofNat_Int, Nat.reduceAdd, Nat.reduceSub, Nat.reduceMul, reduceCtorEq, reduceIte, Nat.reduceEqDiff, Nat.reduceLT, Nat.reduceLeDiff, Nat.reduceBEq, Int.reduceToNat, Int.reduceLE, Int.reduceLT]); first | done | (simp [groundV, *]; done) | (simp_all [groundV]; done)) | (refine ret0 rfl (by repeat' (first | exact trivial | exact rfl | refine ⟨?_, ?_⟩)) ?_; (try simp (etaStruct := .none) only [push_cast, Int.cast_ofNat_Int, Nat.reduceAdd, Nat.reduceSub, Nat.reduceMul, reduceCtorEq, reduceIte, Nat.reduceEqDiff, Nat.reduceLT, Nat.reduceLeDiff, Nat.reduceBEq, Int.reduceToNat, Int.reduceLE, Int.reduceLT]); (try simp [groundV, *]); (try (first | exact Wk.refl _ | exact Wk.nil _ | (refine Wk.tup ?_; repeat' (first | exact trivial | exact Wk.refl _ | exact Wk.nil _ | refine ⟨?_, ?_⟩ | (refine Wk.agg ?_)))))))
structure Knd where
  life : Int
  blow : Int
  load : Int
  price : Int
  deriving DecidableEq, Inhabited
def kindV (k : Int) : Knd := if k = 1 then ⟨10, 1, 1, 5⟩ else if k = 2 then ⟨20, 2, 4, 12⟩ else ⟨0, 0, 0, 0⟩
abbrev kndA (k : Knd) : AV := .agg [I .i64 k.life, I .i64 k.blow, I .i64 k.load, I .i64 k.price]
theorem kindOf_s (k : Int) (h : k = 1 ∨ k = 2) : Spec Try.prog 92 [I .i64 k] [] (kndA (kindV k)) [] := by
  rcases h with rfl | rfl
  · have e : kindV 1 = ⟨10, 1, 1, 5⟩ := rfl
    rw [e]
    refine spec_am Try.func92 rfl rfl mix 10 rfl [.cell 2 164] Try.results92 (Nat.le_of_ble_eq_true rfl) ?_
    (try simp (etaStruct := .none) only [push_cast, Int.cast_ofNat_Int, Nat.reduceAdd, Nat.reduceSub, Nat.reduceMul, reduceCtorEq, reduceIte, Nat.reduceEqDiff, Nat.reduceLT, Nat.reduceLeDiff, Nat.reduceBEq, Int.reduceToNat, Int.reduceLE, Int.reduceLT]); (try simp (disch := omega) only [wrap_in, wk_self, Int.tdiv_eq_ediv_of_nonneg, Int.tmod_eq_emod_of_nonneg]); (repeat (with_reducible refine And.intro ?_ ?_; · first | omega | decide | (simp; done) | (simp; omega) | (intro hh; refine ⟨hh, ?_⟩; omega) | (simp +contextual; done)))
    (first | (refine ret0 rfl (by repeat' (first | exact trivial | exact rfl | refine ⟨?_, ?_⟩)) (Wk.of ?_); (try simp (etaStruct := .none) only [push_cast, Int.cast_ofNat_Int, Nat.reduceAdd, Nat.reduceSub, Nat.reduceMul, reduceCtorEq, reduceIte, Nat.reduceEqDiff, Nat.reduceLT, Nat.reduceLeDiff, Nat.reduceBEq, Int.reduceToNat, Int.reduceLE, Int.reduceLT]); first | done | (simp [*]; done) | (simp_all []; done)) | (refine ret0 rfl (by repeat' (first | exact trivial | exact rfl | refine ⟨?_, ?_⟩)) ?_; (try simp (etaStruct := .none) only [push_cast, Int.cast_ofNat_Int, Nat.reduceAdd, Nat.reduceSub, Nat.reduceMul, reduceCtorEq, reduceIte, Nat.reduceEqDiff, Nat.reduceLT, Nat.reduceLeDiff, Nat.reduceBEq, Int.reduceToNat, Int.reduceLE, Int.reduceLT]); (try simp [*]); (try (first | exact Wk.refl _ | exact Wk.nil _ | (refine Wk.tup ?_; repeat' (first | exact trivial | exact Wk.refl _ | exact Wk.nil _ | refine ⟨?_, ?_⟩ | (refine Wk.agg ?_)))))))
  · have e : kindV 2 = ⟨20, 2, 4, 12⟩ := rfl
    rw [e]
    refine spec_am Try.func92 rfl rfl mix 10 rfl [.cell 2 164] Try.results92 (Nat.le_of_ble_eq_true rfl) ?_
    (try simp (etaStruct := .none) only [push_cast, Int.cast_ofNat_Int, Nat.reduceAdd, Nat.reduceSub, Nat.reduceMul, reduceCtorEq, reduceIte, Nat.reduceEqDiff, Nat.reduceLT, Nat.reduceLeDiff, Nat.reduceBEq, Int.reduceToNat, Int.reduceLE, Int.reduceLT]); (try simp (disch := omega) only [wrap_in, wk_self, Int.tdiv_eq_ediv_of_nonneg, Int.tmod_eq_emod_of_nonneg]); (repeat (with_reducible refine And.intro ?_ ?_; · first | omega | decide | (simp; done) | (simp; omega) | (intro hh; refine ⟨hh, ?_⟩; omega) | (simp +contextual; done)))
    (first | (refine ret0 rfl (by repeat' (first | exact trivial | exact rfl | refine ⟨?_, ?_⟩)) (Wk.of ?_); (try simp (etaStruct := .none) only [push_cast, Int.cast_ofNat_Int, Nat.reduceAdd, Nat.reduceSub, Nat.reduceMul, reduceCtorEq, reduceIte, Nat.reduceEqDiff, Nat.reduceLT, Nat.reduceLeDiff, Nat.reduceBEq, Int.reduceToNat, Int.reduceLE, Int.reduceLT]); first | done | (simp [*]; done) | (simp_all []; done)) | (refine ret0 rfl (by repeat' (first | exact trivial | exact rfl | refine ⟨?_, ?_⟩)) ?_; (try simp (etaStruct := .none) only [push_cast, Int.cast_ofNat_Int, Nat.reduceAdd, Nat.reduceSub, Nat.reduceMul, reduceCtorEq, reduceIte, Nat.reduceEqDiff, Nat.reduceLT, Nat.reduceLeDiff, Nat.reduceBEq, Int.reduceToNat, Int.reduceLE, Int.reduceLT]); (try simp [*]); (try (first | exact Wk.refl _ | exact Wk.nil _ | (refine Wk.tup ?_; repeat' (first | exact trivial | exact Wk.refl _ | exact Wk.nil _ | refine ⟨?_, ?_⟩ | (refine Wk.agg ?_)))))))
def allN (p : Nat → Bool) : Nat → Bool
  | 0 => true
  | k + 1 => allN p k && p k
theorem allN_iff (p : Nat → Bool) : ∀ n, allN p n = true ↔ ∀ i, i < n → p i = true
  | 0 => by simp [allN]
  | n + 1 => by
    rw [allN, Bool.and_eq_true, allN_iff p n]
    constructor
    · rintro ⟨a, b⟩ i hi
      rcases Nat.lt_or_ge i n with h | h
      · exact a i h
      · obtain rfl : i = n := by omega
        exact b
    · intro h
      exact ⟨fun i hi => h i (by omega), h n (by omega)⟩
def baseB (w : Wld) (i : Nat) : Bool := groundV w.f (w.bases.getD i default) && within (w.stocks.getD i default) 0 1000000 && allN (fun j => !decide (w.bases.getD j default = w.bases.getD i default)) i
def mineB (w : Wld) (i : Nat) : Bool := within (w.mines.getD i default) 0 1000000 && (decide (w.mines.getD i default = 0) || decide (w.f.p.getD i default = 3))
def trp1 (w : Wld) (t : Trp) : Bool := within t.id 1 (w.next - 1) && within t.owner 0 ((w.bases.length : Int) - 1) && groundV w.f t.c && within t.life 1 (kindV t.kind).life && within t.load 0 (5 * (2 - t.kind))
def trp2 (w : Wld) (i : Nat) : Bool := allN (fun j => decide ((w.troops.getD j default).id < (w.troops.getD i default).id) && !decide ((w.troops.getD j default).c = (w.troops.getD i default).c)) i
def troopB (w : Wld) (i : Nat) : Bool := within (w.troops.getD i default).kind 1 2 && (trp1 w (w.troops.getD i default) && trp2 w i)
def worldB (w : Wld) : Bool := allN (baseB w) w.bases.length && allN (mineB w) w.mines.length && allN (troopB w) w.troops.length
def worldF (w : Wld) : Bool := decide (w.stocks.length = w.bases.length) && decide (w.mines.length = w.f.p.length) && within w.next 1 1000000 && within w.now 0 1000000
def worldE (w : Wld) : Int := if fldE w.f ≠ 0 then fldE w.f else if 8 < w.bases.length ∨ 100 < w.troops.length then 2 else if worldF w && worldB w then 0 else 4
end Go.Proofs.Ytjkdhjmegoblnaa
namespace Go.Proofs.Ytjkdhjmegoblnaa
set_option linter.all false
open Go.RowKit
def lq (n m k : Nat) : Nat := (2 * k * m + n) / (2 * n)
def lpt (a : Cel) (sx sy : Int) (X Y k : Nat) : Cel := if Y ≤ X then ⟨a.x + sx * k, a.y + sy * lq X Y k⟩ else ⟨a.x + sx * lq Y X k, a.y + sy * k⟩
def lpts (a : Cel) (sx sy : Int) (X Y n : Nat) : List Cel := (List.range (n + 1)).map (lpt a sx sy X Y)
end Go.Proofs.Ytjkdhjmegoblnaa
namespace Go.Proofs.Ytjkdhjmegoblnaa
set_option linter.all false
open Go.RowKit
set_option maxRecDepth 100000
set_option maxHeartbeats 2000000
def lineV (a b : Cel) : List Cel := lpts a (b.x - a.x).sign (b.y - a.y).sign (b.x - a.x).natAbs (b.y - a.y).natAbs (max (b.x - a.x).natAbs (b.y - a.y).natAbs)
end Go.Proofs.Ytjkdhjmegoblnaa
