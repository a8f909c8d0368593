/- Lemmas for the proof of floodSays.proved. -/
import Derived.Test.YtjkdhjmegoblnaaFloodSaysM2
import Derived.ProofKit
import Derived.OpenShut
import Derived.ShutString
import Derived.ChangeOld
import Derived.Below
import Derived.Deep.Slices
import Derived.Test.YtjkdhjmegoblnaaProg
import Derived.KernelRfl
namespace Go.Proofs.Ytjkdhjmegoblnaa
set_option linter.all false
open Go.RowKit Go.ChangeShapes Go.WideShapes Go.ChangeAt
def Opens (P : Program) (T sz : Nat) (w : World) {α : Type} (enc : α → List Value) (ok : α → Prop) : Prop :=
  ∀ (H : Type) (eH : TypeId × Value → H) (fuel : Nat) (cs : List Value) (y : DataW H × List MemPlace), DataW.trod eH P w 0 (fun _ => true) true fuel T cs = some y → (∀ n ∈ y.1.weights P T, n ≤ reachBytes) → ∃ x : α, cs = enc x ∧ cs.length = sz ∧ ok x
theorem Opens.int {P : Program} {T : Nat} {w : World} {k : IntKind} (h : P.underlying T = some (.int k)) : Opens P T 1 w (fun n : Int => [.int k n]) (fun n => (Lit.int k n).wf = true) := by
  intro H eH fuel cs y hy _
  obtain ⟨n, rfl, _, hw⟩ := DataW.trod_int h hy
  exact ⟨n, rfl, rfl, hw⟩
theorem wf_i64' {n : Int} (h : (Lit.int .i64 n).wf = true) : -9223372036854775808 ≤ n ∧ n ≤ 9223372036854775807 := by
  simpa [Lit.wf, IntKind.min, IntKind.max, IntKind.signed, IntKind.bits] using h
theorem wf_u64' {n : Int} (h : (Lit.int .u64 n).wf = true) : 0 ≤ n ∧ n ≤ 18446744073709551615 := by
  simpa [Lit.wf, IntKind.min, IntKind.max, IntKind.signed, IntKind.bits] using h
theorem wf_u32' {n : Int} (h : (Lit.int .u32 n).wf = true) : 0 ≤ n ∧ n ≤ 4294967295 := by
  simpa [Lit.wf, IntKind.min, IntKind.max, IntKind.signed, IntKind.bits] using h
theorem Opens.i64 {P : Program} {T : Nat} {w : World} (h : P.underlying T = some (.int .i64)) : Opens P T 1 w ei64 (fun n => -9223372036854775808 ≤ n ∧ n ≤ 9223372036854775807) := by
  intro H eH fuel cs y hy _
  obtain ⟨n, rfl, _, hw⟩ := DataW.trod_int h hy
  exact ⟨n, rfl, rfl, wf_i64' hw⟩
theorem Opens.u64 {P : Program} {T : Nat} {w : World} (h : P.underlying T = some (.int .u64)) : Opens P T 1 w e64 (fun n => n < 18446744073709551616) := by
  intro H eH fuel cs y hy _
  obtain ⟨n, rfl, _, hw⟩ := DataW.trod_int h hy
  have := wf_u64' hw
  exact ⟨n.toNat, by simp only [e64]; congr 2; omega, rfl, by omega⟩
theorem Opens.u32 {P : Program} {T : Nat} {w : World} (h : P.underlying T = some (.int .u32)) : Opens P T 1 w e32 (fun n => n < 4294967296) := by
  intro H eH fuel cs y hy _
  obtain ⟨n, rfl, _, hw⟩ := DataW.trod_int h hy
  have := wf_u32' hw
  exact ⟨n.toNat, by simp only [e32]; congr 2; omega, rfl, by omega⟩
def eBool (b : Bool) : List Value := [.bool b]
theorem Opens.bool {P : Program} {T : Nat} {w : World} (h : P.underlying T = some .bool) : Opens P T 1 w eBool (fun _ => True) := by
  intro H eH fuel cs y hy _
  obtain ⟨b, rfl, _⟩ := DataW.trod_bool h hy
  exact ⟨b, rfl, rfl, trivial⟩
def eStr (s : ByteArray) : List Value := [.string s]
theorem Opens.str {P : Program} {T : Nat} {w : World} (h : P.underlying T = some .string) : Opens P T 1 w eStr (fun s => s.size ≤ 140737488351232) := by
  intro H eH fuel cs y hy hw
  obtain ⟨s, rfl, rfl, hs⟩ := DataW.trod_string h hy
  exact ⟨s, rfl, rfl, (by
    have h := hw s.data.toList.length (List.mem_singleton.2 rfl)
    have e : s.data.toList.length = s.size := Array.length_toList
    rw [e] at h
    exact h)⟩
structure SL (α : Type) where
  a : Option Addr
  c : Nat
  xs : List α
def SL.val {α : Type} (s : SL α) : Value := .slice s.a s.xs.length s.c
def SL.enc {α : Type} (s : SL α) : List Value := [s.val]
structure SLok {α : Type} (w : World) (B : Nat) (sz bts : Nat) (enc : α → List Value) (ok : α → Prop) (s : SL α) : Prop where
  els : Els w B s.a sz enc s.xs
  each : ∀ x ∈ s.xs, ok x ∧ (enc x).length = sz
  cap : s.xs.length ≤ s.c
  max : s.c ≤ maxLen
  reach : s.c * bts ≤ 140737488351232
  nil : s.a = none → s.xs.length = 0 ∧ s.c = 0
theorem Opens.slice {P : Program} {T E sz bts : Nat} {w : World} {α : Type} {enc : α → List Value} {ok : α → Prop} (hT : P.underlying T = some (.slice E)) (hc : P.cellsOf E = sz) (hsz : 0 < sz) (hby : P.bytesOf E = bts) (hE : Opens P E sz w enc ok) :
    Opens P T 1 w (SL.enc (α := α)) (SLok w w.heap.size sz bts enc ok) := by
  intro H eH fuel cs y hy hw
  rcases Deep.open_slice hT hy with ⟨rfl, _⟩ | ⟨a, len, cap, m, n, D, Pl, rfl, _, hl, hm, hmm, hy2, hx⟩
  · exact ⟨⟨none, 0, []⟩, rfl, rfl, ⟨.inl rfl, by simp, Nat.le_refl _, Nat.zero_le _, by simp, fun _ => ⟨rfl, rfl⟩⟩⟩
  · simp only [if_true] at hmm
    subst hmm
    subst hy2
    have hreach : m * bts ≤ 140737488351232 := by
      have h := hw ((len + (m - len)) * P.bytesOf E) (by simp [DataW.weights, hT])
      rw [show len + (m - len) = m from by omega, hby] at h
      exact h
    have hwe : ∀ i, i < len → ∀ k ∈ (D i).weights P E, k ≤ reachBytes := by
      intro i hi k hk
      refine hw k ?_
      simp only [DataW.weights, hT, List.mem_cons, List.mem_append]
      refine .inr (.inl ?_)
      have key : ∀ (l : List (DataW H)), D i ∈ l → k ∈ DataW.weightsAll P E l := by
        intro l
        induction l with
        | nil => intro h; simp at h
        | cons d l ih =>
          intro h
          simp only [DataW.weightsAll, List.mem_append]
          rcases List.mem_cons.1 h with rfl | h
          · exact .inl hk
          · exact .inr (ih h)
      exact key _ (List.mem_map.2 ⟨i, List.mem_range.2 hi, rfl⟩)
    have hx2 : ∀ i, i < len → ∃ x : α, ok x ∧ (enc x).length = sz ∧ ∀ j, j < sz → w.cell? ((a.add (i * sz)).add j) = (enc x)[j]? := by
      intro i hi
      obtain ⟨cs', h1, h2⟩ := hx i (by omega)
      obtain ⟨x, rfl, hlen, hok⟩ := hE H eH n cs' _ h2 (hwe i hi)
      obtain ⟨_, _, h3⟩ := World.cells?_some h1
      rw [hc] at h3
      exact ⟨x, hok, hlen, h3⟩
    by_cases h0 : len = 0
    · subst h0
      exact ⟨⟨some a, m, []⟩, rfl, rfl, ⟨.inl rfl, by simp, Nat.zero_le _, hm, hreach, fun h => by simp at h⟩⟩
    · obtain ⟨x0, _⟩ := hx2 0 (by omega)
      have : Inhabited α := ⟨x0⟩
      obtain ⟨f, hf⟩ := Deep.choose_lt (p := fun i x => ok x ∧ (enc x).length = sz ∧ ∀ j, j < sz → w.cell? ((a.add (i * sz)).add j) = (enc x)[j]?) hx2
      have hlen : ((List.range len).map f).length = len := by simp
      refine ⟨⟨some a, m, (List.range len).map f⟩, by simp [SL.enc, SL.val], rfl, ⟨?_, ?_, by simpa using hl, hm, hreach, fun h => by simp at h⟩⟩
      · obtain ⟨_, hl0, hc0⟩ := hf 0 (by omega)
        have hcell := hc0 0 hsz
        rw [List.getElem?_eq_getElem (by omega)] at hcell
        simp only [Nat.zero_mul] at hcell
        have hadd0 : ((a.add 0).add 0) = a := by simp [Addr.add]
        rw [hadd0] at hcell
        have hsp := World.cell?_spot hcell
        have hlt := World.block_lt_of_cell? w a hcell
        obtain ⟨b, o, sp⟩ := a
        simp only at hsp
        subst hsp
        refine .inr ⟨b, o, rfl, hlt, fun i j v hv => ?_⟩
        cases hxi : ((List.range len).map f)[i]? with
        | none => rw [hxi] at hv; simp at hv
        | some x =>
          rw [hxi] at hv
          have hi : i < len := by have := (List.getElem?_eq_some_iff.1 hxi).1; simpa using this
          have hfx : f i = x := by simpa [hi] using hxi
          obtain ⟨_, hl1, hc1⟩ := hf i hi
          have hj : j < sz := by
            have hv' : (enc x)[j]? = some v := by simpa using hv
            have := (List.getElem?_eq_some_iff.1 hv').1
            rw [← hfx, hl1] at this; exact this
          have := hc1 j hj
          rw [hfx] at this
          rw [Deep.add_add, Addr.add_lit] at this
          rw [this]; simpa using hv
      · intro x hx
        simp only [List.mem_map, List.mem_range] at hx
        obtain ⟨i, hi, rfl⟩ := hx
        obtain ⟨h1, h2, _⟩ := hf i hi
        exact ⟨h1, h2⟩
theorem Opens.map {P : Program} {T sz : Nat} {w : World} {α β : Type} {enc : α → List Value} {ok : α → Prop} {enc' : β → List Value} {ok' : β → Prop} (h : Opens P T sz w enc ok) (f : α → β) (hf : ∀ x, enc' (f x) = enc x) (hok : ∀ x, ok x → ok' (f x)) : Opens P T sz w enc' ok' := by
  intro H eH fuel cs y hy hw
  obtain ⟨x, rfl, hl, ho⟩ := h H eH fuel cs y hy hw
  exact ⟨f x, (hf x).symm, hl, hok x ho⟩
def OpensF (P : Program) (w : World) (fs : List Field) (o sz : Nat) {α : Type} (enc : α → List Value) (ok : α → Prop) : Prop :=
  ∀ (H : Type) (eH : TypeId × Value → H) (fuel : Nat) (cs : List Value), cs.length = o + sz →
    (∀ f ∈ fs, ∃ y, DataW.trod eH P w 0 (fun _ => true) true fuel f.type ((cs.drop f.offset).take (P.cellsOf f.type)) = some y ∧ ∀ n ∈ y.1.weights P f.type, n ≤ reachBytes) → ∃ x : α, cs.drop o = enc x ∧ ok x
theorem OpensF.nil {P : Program} {w : World} {o : Nat} : OpensF P w [] o 0 (fun _ : Unit => []) (fun _ => True) := by
  intro H eH fuel cs hl _
  exact ⟨(), List.drop_eq_nil_of_le (by omega), trivial⟩
theorem OpensF.cons {P : Program} {w : World} {f : Field} {fs : List Field} {o n sz : Nat} {α β : Type} {enc : α → List Value} {ok : α → Prop} {enc' : β → List Value} {ok' : β → Prop}
    (ho : f.offset = o) (hn : P.cellsOf f.type = n) (h : Opens P f.type n w enc ok) (h' : OpensF P w fs (o + n) sz enc' ok') :
    OpensF P w (f :: fs) o (n + sz) (fun x : α × β => enc x.1 ++ enc' x.2) (fun x => ok x.1 ∧ ok' x.2) := by
  intro H eH fuel cs hl hall
  obtain ⟨y, hy, hw⟩ := hall f (by simp)
  rw [ho, hn] at hy
  obtain ⟨x, hx, _, hok⟩ := h H eH fuel _ y hy hw
  obtain ⟨x', hx', hok'⟩ := h' H eH fuel cs (by omega) (fun g hg => hall g (by simp [hg]))
  refine ⟨(x, x'), ?_, hok, hok'⟩
  show cs.drop o = enc x ++ enc' x'
  rw [← hx, ← hx', ← List.drop_drop, List.take_append_drop]
theorem Opens.struct {P : Program} {T sz : Nat} {w : World} {fs : Array Field} {α : Type} {enc : α → List Value} {ok : α → Prop} (hT : P.underlying T = some (.struct fs)) (hc : P.cellsOf T = sz) (h : OpensF P w fs.toList 0 sz enc ok) :
    Opens P T sz w enc ok := by
  intro H eH fuel cs y hy hw
  obtain ⟨xs, n, _, rfl, hl, hlen, hfs⟩ := DataW.trod_struct hT hy
  obtain ⟨x, hx, hok⟩ := h H eH n cs (by omega) (fun f hf => by
    obtain ⟨i, hi, he⟩ := List.getElem_of_mem hf
    have hi' : i < fs.size := by simpa using hi
    have hfi : fs[i]? = some f := by rw [Array.getElem?_eq_getElem hi']; simpa using he
    have := hfs i f hfi
    have hx : xs[i]? = some (xs[i]'(by omega)) := List.getElem?_eq_getElem (by omega)
    rw [hx] at this
    refine ⟨_, this, fun k hk => hw k ?_⟩
    simp only [DataW.weights, hT]
    refine DataW.weights_mem_each (j := i) (t := f.type) ?_ ?_ k hk
    · rw [List.getElem?_map, Array.getElem?_toList, hfi]; rfl
    · rw [List.getElem?_map, hx]; rfl)
  exact ⟨x, by simpa using hx, by omega, hok⟩
theorem Opens.arg {P : Program} {T sz : Nat} {w : World} {α : Type} {enc : α → List Value} {ok : α → Prop} (h : Opens P T sz w enc ok) {H : Type} {eH : TypeId × Value → H} {v : Value} {d : DataW H} {p : List MemPlace}
    (hT : DataW.Trod eH P w 0 (fun _ => true) true T v d p) {ts : List TypeId} {ds : List (DataW H)} (hz : (DataW.weightsEach P ts ds).all (· ≤ reachBytes) = true) (j : Nat) (h1 : ts[j]? = some T) (h2 : ds[j]? = some d) : ∃ x : α, v.cells.toList = enc x ∧ ok x := by
  obtain ⟨fuel, hf⟩ := hT
  obtain ⟨x, h1, _, h2⟩ := h H eH fuel _ _ hf (fun n hn => by
    have := List.all_eq_true.1 hz n (DataW.weights_mem_each h1 h2 n hn)
    simpa using this)
  exact ⟨x, h1, h2⟩
theorem arg_struct {P : Program} {w : World} {base t : Nat} {v : Value} {cs : List Value} {fs : Array Field} (h : Value.okWide P w .any base t v) (hs : P.underlying t = some (.struct fs)) (hc : v.cells.toList = cs) : v = .agg cs.toArray := by
  simp only [Value.okWide, hs] at h
  obtain ⟨cs', rfl, _⟩ := h
  subst hc
  simp [Value.cells]
end Go.Proofs.Ytjkdhjmegoblnaa
namespace Go.Proofs.Ytjkdhjmegoblnaa
set_option linter.all false
open Go.RowKit
theorem rel_c {w : World} {F : Nat → Prop} {b : Nat} : ∀ (ps : List PV) (vs : List Value) (o : Nat), vs.length = ps.length → (∀ (j : Nat) v, vs[j]? = some v → w.cell? ⟨b, o + j, none⟩ = some v) → (∀ (j : Nat) p u, ps[j]? = some p → vs[j]? = some u → RelP w F p u) → RelC w F b o ps
  | [], _, _, _, _, _ => by simp only [RelC]
  | p :: ps, [], _, h, _, _ => by simp at h
  | p :: ps, v :: vs, o, h, hc, hr => by
    simp only [RelC]
    refine ⟨⟨v, by have := hc 0 v rfl; simpa using this, hr 0 p v rfl rfl⟩, rel_c ps vs (o + 1) (by simpa using h) (fun j u hu => ?_) (fun j q u h1 h2 => hr (j + 1) q u h1 h2)⟩
    have := hc (j + 1) u hu
    rwa [show o + (j + 1) = o + 1 + j from by omega] at this
theorem rel_e {α : Type} {w : World} {F : Nat → Prop} {b sz : Nat} {enc : α → List Value} {pv : α → List PV} : ∀ (xs : List α) (o : Nat), (∀ i j v, (xs[i]?).bind (fun x => (enc x)[j]?) = some v → w.cell? ⟨b, o + (i * sz + j), none⟩ = some v) →
    (∀ x ∈ xs, (pv x).length = sz ∧ (enc x).length = sz ∧ ∀ (j : Nat) p u, (pv x)[j]? = some p → (enc x)[j]? = some u → RelP w F p u) → RelE w F b sz o (xs.map pv)
  | [], _, _, _ => by simp only [List.map_nil, RelE]
  | x :: xs, o, hc, hp => by
    simp only [List.map_cons, RelE]
    obtain ⟨h1, h2, h3⟩ := hp x (by simp)
    refine ⟨h1, rel_c (pv x) (enc x) o (by rw [h1, h2]) (fun j v hv => ?_) h3, rel_e xs (o + sz) (fun i j v hv => ?_) fun y hy => hp y (List.mem_cons_of_mem _ hy)⟩
    · have := hc 0 j v (by simpa using hv); simpa using this
    · have := hc (i + 1) j v (by simpa using hv)
      rwa [show o + ((i + 1) * sz + j) = o + sz + (i * sz + j) from by rw [Nat.succ_mul]; omega] at this
theorem rel_sl {α : Type} {w : World} {B sz bts : Nat} {enc : α → List Value} {ok : α → Prop} {s : SL α} {pv : α → List PV} (h : SLok w B sz bts enc ok s)
    (hp : ∀ x ∈ s.xs, ok x → (pv x).length = sz ∧ ∀ (j : Nat) p u, (pv x)[j]? = some p → (enc x)[j]? = some u → RelP w (· < B) p u) : RelP w (· < B) (.sl sz (s.xs.map pv)) s.val := by
  simp only [RelP]
  refine ⟨s.a, s.c, by simp [SL.val], by simpa using h.cap, h.max, ?_⟩
  rcases h.els with h1 | ⟨b, o, ha, hb, hc⟩
  · exact .inl (by rw [h1]; rfl)
  · refine .inr ⟨b, o, ha, hb, rel_e s.xs o hc fun x hx => ?_⟩
    obtain ⟨h1, h2⟩ := h.each x hx
    obtain ⟨h3, h4⟩ := hp x hx h1
    exact ⟨h3, h2, h4⟩
theorem spec_law {P : Program} {f : FuncId} {args : List AV} (S : Spec P f args [] (B true) []) {w : World} {vs : List Value} (hr : RelL (· < 0) w (· < w.heap.size) (fun _ => none) args vs) :
    Calls P f vs.toArray w fun e w' => e = .returned (.bool true) ∧ Below w.heap.size w w' := by
  have M : MemOk w (inB fun _ => none) (· < ([] : List Chunk).length) (· < w.heap.size) (fun _ => none) (nth []) w :=
    ⟨Nat.le_refl _, rfl, rfl, rfl, fun _ _ _ => rfl, fun _ h => h, fun _ _ h => by simp at h, fun _ h => absurd rfl h, fun _ _ _ _ _ h => by simp at h, fun _ _ _ h => by simp at h⟩
  refine (S.2.2 w (· < w.heap.size) (fun _ => none) vs M hr).mono ?_
  rintro e w' ⟨v, F', β', rfl, M', hv, _⟩
  refine ⟨by rw [relB.1 hv], M'.os, M'.tape, M'.output, M'.size, fun b hb => M'.frame b hb ?_⟩
  rintro ⟨i, bd, h, _⟩
  simp at h
theorem relL_nil {U F : Nat → Prop} {β : Nat → Option Bind} {w : World} : RelL U w F β [] [] := by simp only [RelL]
theorem relL_cons {U F : Nat → Prop} {β : Nat → Option Bind} {w : World} {x : AV} {xs : List AV} {v : Value} {vs : List Value} (h1 : RelA U w F β x v) (h2 : RelL U w F β xs vs) : RelL U w F β (x :: xs) (v :: vs) := by
  simp only [RelL]; exact ⟨v, vs, rfl, h1, h2⟩
theorem relA_agg {U F : Nat → Prop} {β : Nat → Option Bind} {w : World} {xs : List AV} {vs : List Value} (h : RelL U w F β xs vs) (h1 : ∀ x ∈ vs, x.oneCell' = true) : RelA U w F β (.agg xs) (.agg vs.toArray) := by
  simp only [RelA]; exact ⟨vs.toArray, rfl, by simpa using h, by simpa using h1⟩
theorem relA_c {U F : Nat → Prop} {β : Nat → Option Bind} {w : World} {p : PV} {v : Value} (h : RelP w F p v) : RelA U w F β (.c p) v := by simp only [RelA]; exact h
theorem relP_v {F : Nat → Prop} {w : World} {v : Value} (h : v.oneCell' = true) : RelP w F (.v v) v := by simp [RelP, h]
end Go.Proofs.Ytjkdhjmegoblnaa
namespace Go.Proofs.Ytjkdhjmegoblnaa
set_option linter.all false
open Go.RowKit
attribute [push_cast] invA awp awpL opW opWF opX opG ex3 fz fzL inZ fzH deadsOf rowsA rowsL fzEff mapAV kty keyA intsA ex2 ex1 loadAV cellsAt valOf addO fieldAddrAV partAV fieldAV indexAddrAV indexAV bound sliceAV convAV lenAV minInts maxInts isPtr pickAV bsel_false bsel_true binAV intBin strBin eqAV eqCells eqVal nilP unAV slOf cellsOf toPV toPVs splice fillA plFs buildAV chunks sameO makeAV sliceLitAV storeAV rowOf appAV dstOk dstV gcond strip stripsT St.app putO look_n look_c lookC_n lookC_c getO ofV seqK blkK scoK nilCmp xorB opK drK lpK_n lpK_e lpK_r joinK_n joinK_e joinK_r argsT hsT RetQ I B S Op.operands Call.operands cv cvL ix ix.go cellP cvC up upL upC upsL upI DrawG drawL touch touch2 cellIds idsA idsL memN onlyC wk_self bool_imp cvT cvH hsW resAV oneV WkL WkC List.map_cons List.map_nil Option.toArray List.getElem?_cons_zero List.getElem?_cons_succ List.getElem?_nil List.drop_succ_cons List.drop_zero List.drop_nil List.take_succ_cons List.take_zero List.take_nil List.append_nil List.nil_append List.cons_append List.getElem?_toArray List.length_cons List.length_nil List.all_cons List.all_nil Bool.and_true Bool.true_and Bool.and_self Bool.and_false Bool.false_and Bool.or_false Bool.or_true Bool.true_or Bool.false_or Option.map_some Option.map_none Option.bind_some Option.bind_none if_true if_false true_and and_true List.getD_cons_zero List.getD_cons_succ Bool.not_true Bool.not_false Bool.false_eq_true not_false_eq_true not_true_eq_false Option.isSome_some List.isEmpty_cons Nat.add_zero Nat.zero_add List.length_map List.replicate_succ List.replicate_zero Nat.sub_zero and_self implies_true forall_const Value.oneCell' imp_self Int.toNat_zero Int.toNat_one Int.toNat_natCast true_or or_true or_false false_or Array.toList_append List.size_toArray decide_true decide_false Nat.ble_eq Nat.beq_eq Bool.and_eq_true Int.natCast_add Int.cast_ofNat_Int Int.natCast_zero Int.natCast_one decide_eq_true_eq decide_eq_false_iff_not Bool.not_eq_true' Bool.not_eq_false' Bool.or_eq_true Bool.or_eq_false_iff Bool.and_eq_false_iff beq_self_eq_true
end Go.Proofs.Ytjkdhjmegoblnaa
namespace Go.Proofs.Ytjkdhjmegoblnaa
set_option linter.all false
theorem mix : Try.prog.follows .mixedOrders = true := by kernel_rfl
theorem it3 : intTy Try.prog 3 = true := by kernel_rfl
theorem ty3 : ty Try.prog 3 = some ⟨.int .i64, false, 1, 8, [.int .i64 0]⟩ := by kernel_rfl
theorem ty4 : ty Try.prog 4 = some ⟨.bool, false, 1, 1, [.bool false]⟩ := by kernel_rfl
theorem ty5 : ty Try.prog 5 = some ⟨.int .u8, false, 1, 1, [.int .u8 0]⟩ := by kernel_rfl
theorem ty9 : ty Try.prog 9 = some ⟨.str, false, 1, 16, [.string ByteArray.empty]⟩ := by kernel_rfl
theorem ty20 : ty Try.prog 20 = some ⟨.ifc, false, 1, 16, [.nilIface]⟩ := by kernel_rfl
theorem ty23 : ty Try.prog 23 = some ⟨.sl 38, false, 1, 24, [.slice none 0 0]⟩ := by kernel_rfl
theorem ty25 : ty Try.prog 25 = some ⟨.st [some (0, 1, false), some (1, 1, false)], true, 2, 16, [.int .i64 0, .int .i64 0]⟩ := by kernel_rfl
theorem ty27 : ty Try.prog 27 = some ⟨.st [some (0, 1, false), some (1, 1, false), some (2, 1, false), some (3, 2, true), some (5, 1, false)], true, 6, 48, [.int .i64 0, .int .i64 0, .int .i64 0, .int .i64 0, .int .i64 0, .int .i64 0]⟩ := by kernel_rfl
theorem it28 : intTy Try.prog 28 = true := by kernel_rfl
theorem ty28 : ty Try.prog 28 = some ⟨.int .i64, false, 1, 8, [.int .i64 0]⟩ := by kernel_rfl
theorem ty36 : ty Try.prog 36 = some ⟨.sl 27, false, 1, 24, [.slice none 0 0]⟩ := by kernel_rfl
theorem ty38 : ty Try.prog 38 = some ⟨.st [some (0, 1, false), some (1, 1, false), some (2, 1, false)], true, 3, 40, [.slice none 0 0, .int .i64 0, .bool false]⟩ := by kernel_rfl
theorem ty41 : ty Try.prog 41 = some ⟨.sl 3, false, 1, 24, [.slice none 0 0]⟩ := by kernel_rfl
theorem ty43 : ty Try.prog 43 = some ⟨.st [some (0, 1, false), some (1, 1, false), some (2, 1, false)], true, 3, 40, [.int .i64 0, .int .i64 0, .slice none 0 0]⟩ := by kernel_rfl
theorem ty44 : ty Try.prog 44 = some ⟨.sl 25, false, 1, 24, [.slice none 0 0]⟩ := by kernel_rfl
theorem ty52 : ty Try.prog 52 = some ⟨.sl 113, false, 1, 24, [.slice none 0 0]⟩ := by kernel_rfl
theorem ty54 : ty Try.prog 54 = some ⟨.st [some (0, 3, true), some (3, 1, false), some (4, 1, false), some (5, 1, false), some (6, 1, false), some (7, 1, false), some (8, 1, false)], true, 9, 152, [.int .i64 0, .int .i64 0, .slice none 0 0, .slice none 0 0, .slice none 0 0, .slice none 0 0, .slice none 0 0, .int .i64 0, .int .i64 0]⟩ := by kernel_rfl
theorem ty55 : ty Try.prog 55 = some ⟨.sl 64, false, 1, 24, [.slice none 0 0]⟩ := by kernel_rfl
theorem ty56 : ty Try.prog 56 = some ⟨.sl 68, false, 1, 24, [.slice none 0 0]⟩ := by kernel_rfl
theorem ty57 : ty Try.prog 57 = some ⟨.sl 72, false, 1, 24, [.slice none 0 0]⟩ := by kernel_rfl
theorem ty64 : ty Try.prog 64 = some ⟨.st [some (0, 1, false), some (1, 1, false)], true, 2, 16, [.int .i64 0, .int .i64 0]⟩ := by kernel_rfl
theorem ty68 : ty Try.prog 68 = some ⟨.st [some (0, 1, false), some (1, 2, true)], true, 3, 24, [.int .i64 0, .int .i64 0, .int .i64 0]⟩ := by kernel_rfl
theorem ty72 : ty Try.prog 72 = some ⟨.st [some (0, 1, false), some (1, 1, false), some (2, 2, true), some (4, 1, false)], true, 5, 40, [.int .i64 0, .int .i64 0, .int .i64 0, .int .i64 0, .int .i64 0]⟩ := by kernel_rfl
theorem ty82 : ty Try.prog 82 = some ⟨.sl 180, false, 1, 24, [.slice none 0 0]⟩ := by kernel_rfl
theorem ty83 : ty Try.prog 83 = some ⟨.sl 193, false, 1, 24, [.slice none 0 0]⟩ := by kernel_rfl
theorem ty84 : ty Try.prog 84 = some ⟨.sl 188, false, 1, 24, [.slice none 0 0]⟩ := by kernel_rfl
theorem ty86 : ty Try.prog 86 = some ⟨.st [some (0, 1, false), some (1, 1, false)], true, 2, 48, [.slice none 0 0, .slice none 0 0]⟩ := by kernel_rfl
theorem ty91 : ty Try.prog 91 = some ⟨.int .u64, false, 1, 8, [.int .u64 0]⟩ := by kernel_rfl
theorem ty92 : ty Try.prog 92 = some ⟨.sl 91, false, 1, 24, [.slice none 0 0]⟩ := by kernel_rfl
theorem ty97 : ty Try.prog 97 = some ⟨.sl 4, false, 1, 24, [.slice none 0 0]⟩ := by kernel_rfl
theorem ty113 : ty Try.prog 113 = some ⟨.st [some (0, 1, false), some (1, 1, false), some (2, 1, false), some (3, 2, true), some (5, 1, false), some (6, 1, false)], true, 7, 56, [.int .i64 0, .int .i64 0, .int .i64 0, .int .i64 0, .int .i64 0, .int .i64 0, .int .i64 0]⟩ := by kernel_rfl
theorem ty121 : ty Try.prog 121 = some ⟨.sl 9, false, 1, 24, [.slice none 0 0]⟩ := by kernel_rfl
theorem ty123 : ty Try.prog 123 = some ⟨.st [some (0, 1, false), some (1, 1, false), some (2, 1, false), some (3, 1, false), some (4, 1, false), some (5, 1, false), some (6, 1, false), some (7, 1, false)], true, 8, 144, [.int .i64 0, .slice none 0 0, .int .i64 0, .int .i64 0, .slice none 0 0, .slice none 0 0, .slice none 0 0, .slice none 0 0]⟩ := by kernel_rfl
theorem ty125 : ty Try.prog 125 = some ⟨.st [some (0, 1, false), some (1, 1, false), some (2, 1, false), some (3, 1, false)], true, 4, 40, [.int .i64 0, .int .i64 0, .bool false, .string ByteArray.empty]⟩ := by kernel_rfl
theorem ty132 : ty Try.prog 132 = some ⟨.sl 125, false, 1, 24, [.slice none 0 0]⟩ := by kernel_rfl
theorem ty133 : ty Try.prog 133 = some ⟨.sl 28, false, 1, 24, [.slice none 0 0]⟩ := by kernel_rfl
theorem ty146 : ty Try.prog 146 = some ⟨.sl 151, false, 1, 24, [.slice none 0 0]⟩ := by kernel_rfl
theorem ty149 : ty Try.prog 149 = some ⟨.ptr 146, false, 1, 8, [.pointer none]⟩ := by kernel_rfl
theorem ty151 : ty Try.prog 151 = some ⟨.st [some (0, 1, false), some (1, 1, false)], true, 2, 16, [.int .i64 0, .int .i64 0]⟩ := by kernel_rfl
theorem ty158 : ty Try.prog 158 = some ⟨.mp 3 3, false, 1, 8, [.map none]⟩ := by kernel_rfl
theorem ty160 : ty Try.prog 160 = some ⟨.st [some (0, 1, false), some (1, 1, false), some (2, 1, false)], true, 3, 72, [.slice none 0 0, .slice none 0 0, .slice none 0 0]⟩ := by kernel_rfl
theorem ty164 : ty Try.prog 164 = some ⟨.st [some (0, 1, false), some (1, 1, false), some (2, 1, false), some (3, 1, false)], true, 4, 32, [.int .i64 0, .int .i64 0, .int .i64 0, .int .i64 0]⟩ := by kernel_rfl
theorem ty180 : ty Try.prog 180 = some ⟨.st [some (0, 1, false), some (1, 1, false), some (2, 1, false), some (3, 1, false)], true, 4, 32, [.int .i64 0, .int .i64 0, .int .i64 0, .int .i64 0]⟩ := by kernel_rfl
theorem ty183 : ty Try.prog 183 = some ⟨.st [some (0, 2, true)], true, 2, 48, [.slice none 0 0, .slice none 0 0]⟩ := by kernel_rfl
theorem ty186 : ty Try.prog 186 = some ⟨.int .u32, false, 1, 4, [.int .u32 0]⟩ := by kernel_rfl
theorem ty188 : ty Try.prog 188 = some ⟨.st [some (0, 1, false), some (1, 1, false), some (2, 1, false), some (3, 1, false), some (4, 1, false), some (5, 1, false)], true, 6, 64, [.int .i64 0, .int .u32 0, .slice none 0 0, .bool false, .int .i64 0, .int .u32 0]⟩ := by kernel_rfl
theorem ty189 : ty Try.prog 189 = some ⟨.arr 51 188, true, 306, 3264, [.int .i64 0, .int .u32 0, .slice none 0 0, .bool false, .int .i64 0, .int .u32 0, .int .i64 0, .int .u32 0, .slice none 0 0, .bool false, .int .i64 0, .int .u32 0, .int .i64 0, .int .u32 0, .slice none 0 0, .bool false, .int .i64 0, .int .u32 0, .int .i64 0, .int .u32 0, .slice none 0 0, .bool false, .int .i64 0, .int .u32 0, .int .i64 0, .int .u32 0, .slice none 0 0, .bool false, .int .i64 0, .int .u32 0, .int .i64 0, .int .u32 0, .slice none 0 0, .bool false, .int .i64 0, .int .u32 0, .int .i64 0, .int .u32 0, .slice none 0 0, .bool false, .int .i64 0, .int .u32 0, .int .i64 0, .int .u32 0, .slice none 0 0, .bool false, .int .i64 0, .int .u32 0, .int .i64 0, .int .u32 0, .slice none 0 0, .bool false, .int .i64 0, .int .u32 0, .int .i64 0, .int .u32 0, .slice none 0 0, .bool false, .int .i64 0, .int .u32 0, .int .i64 0, .int .u32 0, .slice none 0 0, .bool false, .int .i64 0, .int .u32 0, .int .i64 0, .int .u32 0, .slice none 0 0, .bool false, .int .i64 0, .int .u32 0, .int .i64 0, .int .u32 0, .slice none 0 0, .bool false, .int .i64 0, .int .u32 0, .int .i64 0, .int .u32 0, .slice none 0 0, .bool false, .int .i64 0, .int .u32 0, .int .i64 0, .int .u32 0, .slice none 0 0, .bool false, .int .i64 0, .int .u32 0, .int .i64 0, .int .u32 0, .slice none 0 0, .bool false, .int .i64 0, .int .u32 0, .int .i64 0, .int .u32 0, .slice none 0 0, .bool false, .int .i64 0, .int .u32 0, .int .i64 0, .int .u32 0, .slice none 0 0, .bool false, .int .i64 0, .int .u32 0, .int .i64 0, .int .u32 0, .slice none 0 0, .bool false, .int .i64 0, .int .u32 0, .int .i64 0, .int .u32 0, .slice none 0 0, .bool false, .int .i64 0, .int .u32 0, .int .i64 0, .int .u32 0, .slice none 0 0, .bool false, .int .i64 0, .int .u32 0, .int .i64 0, .int .u32 0, .slice none 0 0, .bool false, .int .i64 0, .int .u32 0, .int .i64 0, .int .u32 0, .slice none 0 0, .bool false, .int .i64 0, .int .u32 0, .int .i64 0, .int .u32 0, .slice none 0 0, .bool false, .int .i64 0, .int .u32 0, .int .i64 0, .int .u32 0, .slice none 0 0, .bool false, .int .i64 0, .int .u32 0, .int .i64 0, .int .u32 0, .slice none 0 0, .bool false, .int .i64 0, .int .u32 0, .int .i64 0, .int .u32 0, .slice none 0 0, .bool false, .int .i64 0, .int .u32 0, .int .i64 0, .int .u32 0, .slice none 0 0, .bool false, .int .i64 0, .int .u32 0, .int .i64 0, .int .u32 0, .slice none 0 0, .bool false, .int .i64 0, .int .u32 0, .int .i64 0, .int .u32 0, .slice none 0 0, .bool false, .int .i64 0, .int .u32 0, .int .i64 0, .int .u32 0, .slice none 0 0, .bool false, .int .i64 0, .int .u32 0, .int .i64 0, .int .u32 0, .slice none 0 0, .bool false, .int .i64 0, .int .u32 0, .int .i64 0, .int .u32 0, .slice none 0 0, .bool false, .int .i64 0, .int .u32 0, .int .i64 0, .int .u32 0, .slice none 0 0, .bool false, .int .i64 0, .int .u32 0, .int .i64 0, .int .u32 0, .slice none 0 0, .bool false, .int .i64 0, .int .u32 0, .int .i64 0, .int .u32 0, .slice none 0 0, .bool false, .int .i64 0, .int .u32 0, .int .i64 0, .int .u32 0, .slice none 0 0, .bool false, .int .i64 0, .int .u32 0, .int .i64 0, .int .u32 0, .slice none 0 0, .bool false, .int .i64 0, .int .u32 0, .int .i64 0, .int .u32 0, .slice none 0 0, .bool false, .int .i64 0, .int .u32 0, .int .i64 0, .int .u32 0, .slice none 0 0, .bool false, .int .i64 0, .int .u32 0, .int .i64 0, .int .u32 0, .slice none 0 0, .bool false, .int .i64 0, .int .u32 0, .int .i64 0, .int .u32 0, .slice none 0 0, .bool false, .int .i64 0, .int .u32 0, .int .i64 0, .int .u32 0, .slice none 0 0, .bool false, .int .i64 0, .int .u32 0, .int .i64 0, .int .u32 0, .slice none 0 0, .bool false, .int .i64 0, .int .u32 0, .int .i64 0, .int .u32 0, .slice none 0 0, .bool false, .int .i64 0, .int .u32 0, .int .i64 0, .int .u32 0, .slice none 0 0, .bool false, .int .i64 0, .int .u32 0, .int .i64 0, .int .u32 0, .slice none 0 0, .bool false, .int .i64 0, .int .u32 0, .int .i64 0, .int .u32 0, .slice none 0 0, .bool false, .int .i64 0, .int .u32 0, .int .i64 0, .int .u32 0, .slice none 0 0, .bool false, .int .i64 0, .int .u32 0, .int .i64 0, .int .u32 0, .slice none 0 0, .bool false, .int .i64 0, .int .u32 0, .int .i64 0, .int .u32 0, .slice none 0 0, .bool false, .int .i64 0, .int .u32 0]⟩ := by kernel_rfl
theorem ty190 : ty Try.prog 190 = some ⟨.arr 51 4, true, 51, 51, [.bool false, .bool false, .bool false, .bool false, .bool false, .bool false, .bool false, .bool false, .bool false, .bool false, .bool false, .bool false, .bool false, .bool false, .bool false, .bool false, .bool false, .bool false, .bool false, .bool false, .bool false, .bool false, .bool false, .bool false, .bool false, .bool false, .bool false, .bool false, .bool false, .bool false, .bool false, .bool false, .bool false, .bool false, .bool false, .bool false, .bool false, .bool false, .bool false, .bool false, .bool false, .bool false, .bool false, .bool false, .bool false, .bool false, .bool false, .bool false, .bool false, .bool false, .bool false]⟩ := by kernel_rfl
theorem ty193 : ty Try.prog 193 = some ⟨.st [some (0, 1, false), some (1, 1, false), some (2, 1, false)], true, 3, 24, [.int .i64 0, .int .i64 0, .int .i64 0]⟩ := by kernel_rfl
theorem ty209 : ty Try.prog 209 = some ⟨.st [some (0, 9, true)], true, 9, 152, [.int .i64 0, .int .i64 0, .slice none 0 0, .slice none 0 0, .slice none 0 0, .slice none 0 0, .slice none 0 0, .int .i64 0, .int .i64 0]⟩ := by kernel_rfl
theorem ty211 : ty Try.prog 211 = some ⟨.arr 2 41, true, 2, 48, [.slice none 0 0, .slice none 0 0]⟩ := by kernel_rfl
theorem ty223 : ty Try.prog 223 = some ⟨.ptr 232, false, 1, 8, [.pointer none]⟩ := by kernel_rfl
theorem ty227 : ty Try.prog 227 = some ⟨.arr 4 25, true, 8, 64, [.int .i64 0, .int .i64 0, .int .i64 0, .int .i64 0, .int .i64 0, .int .i64 0, .int .i64 0, .int .i64 0]⟩ := by kernel_rfl
theorem ty230 : ty Try.prog 230 = some ⟨.sl 326, false, 1, 24, [.slice none 0 0]⟩ := by kernel_rfl
theorem ty232 : ty Try.prog 232 = some ⟨.st [some (0, 3, true), some (3, 2, true), some (5, 1, false), some (6, 1, false)], true, 7, 104, [.int .i64 0, .int .i64 0, .slice none 0 0, .int .i64 0, .int .i64 0, .slice none 0 0, .slice none 0 0]⟩ := by kernel_rfl
theorem ty238 : ty Try.prog 238 = some ⟨.ptr 123, false, 1, 8, [.pointer none]⟩ := by kernel_rfl
theorem ty250 : ty Try.prog 250 = some ⟨.ifc, false, 1, 16, [.nilIface]⟩ := by kernel_rfl
theorem ty258 : ty Try.prog 258 = some ⟨.sl 164, false, 1, 24, [.slice none 0 0]⟩ := by kernel_rfl
theorem ty261 : ty Try.prog 261 = some ⟨.ptr 264, false, 1, 8, [.pointer none]⟩ := by kernel_rfl
theorem ty262 : ty Try.prog 262 = some ⟨.sl 5, false, 1, 24, [.slice none 0 0]⟩ := by kernel_rfl
theorem ty264 : ty Try.prog 264 = some ⟨.st [some (0, 1, false), some (1, 1, false)], true, 2, 32, [.pointer none, .slice none 0 0]⟩ := by kernel_rfl
theorem ty271 : ty Try.prog 271 = some ⟨.int .u64, false, 1, 8, [.int .u64 0]⟩ := by kernel_rfl
theorem ty279 : ty Try.prog 279 = some ⟨.ptr 183, false, 1, 8, [.pointer none]⟩ := by kernel_rfl
theorem ty288 : ty Try.prog 288 = some ⟨.ptr 209, false, 1, 8, [.pointer none]⟩ := by kernel_rfl
theorem ty300 : ty Try.prog 300 = some ⟨.ptr 41, false, 1, 8, [.pointer none]⟩ := by kernel_rfl
theorem ty307 : ty Try.prog 307 = some ⟨.mp 25 3, false, 1, 8, [.map none]⟩ := by kernel_rfl
theorem ty308 : ty Try.prog 308 = some ⟨.ptr 5, false, 1, 8, [.pointer none]⟩ := by kernel_rfl
theorem ty314 : ty Try.prog 314 = some ⟨.ptr 113, false, 1, 8, [.pointer none]⟩ := by kernel_rfl
theorem ty321 : ty Try.prog 321 = some ⟨.arr 2 25, true, 4, 32, [.int .i64 0, .int .i64 0, .int .i64 0, .int .i64 0]⟩ := by kernel_rfl
theorem ty324 : ty Try.prog 324 = some ⟨.ptr 230, false, 1, 8, [.pointer none]⟩ := by kernel_rfl
theorem ty326 : ty Try.prog 326 = some ⟨.st [some (0, 2, true), some (2, 1, false), some (3, 1, false)], true, 4, 32, [.int .i64 0, .int .i64 0, .int .i64 0, .int .i64 0]⟩ := by kernel_rfl
theorem fl25 : flatN Try.prog 9 25 = some [0, 0] := by kernel_rfl
theorem ag25 : aggT Try.prog 25 = true := by kernel_rfl
theorem fl27 : flatN Try.prog 9 27 = some [0, 0, 0, 0, 0, 0] := by kernel_rfl
theorem ag27 : aggT Try.prog 27 = true := by kernel_rfl
theorem fl64 : flatN Try.prog 9 64 = some [0, 0] := by kernel_rfl
theorem ag64 : aggT Try.prog 64 = true := by kernel_rfl
theorem fl68 : flatN Try.prog 9 68 = some [0, 0, 0] := by kernel_rfl
theorem ag68 : aggT Try.prog 68 = true := by kernel_rfl
theorem fl72 : flatN Try.prog 9 72 = some [0, 0, 0, 0, 0] := by kernel_rfl
theorem ag72 : aggT Try.prog 72 = true := by kernel_rfl
theorem fl113 : flatN Try.prog 9 113 = some [0, 0, 0, 0, 0, 0, 0] := by kernel_rfl
theorem ag113 : aggT Try.prog 113 = true := by kernel_rfl
theorem fl193 : flatN Try.prog 9 193 = some [0, 0, 0] := by kernel_rfl
theorem ag193 : aggT Try.prog 193 = true := by kernel_rfl
theorem meth149_Len : methA Try.prog 149 "Len" = some (81, false, some 146) := by kernel_rfl
theorem meth149_Less : methA Try.prog 149 "Less" = some (276, false, some 146) := by kernel_rfl
theorem meth149_Pop : methA Try.prog 149 "Pop" = some (278, true, some 146) := by kernel_rfl
theorem meth149_Push : methA Try.prog 149 "Push" = some (279, true, some 146) := by kernel_rfl
theorem meth149_Swap : methA Try.prog 149 "Swap" = some (277, false, some 146) := by kernel_rfl
theorem meth324_Len : methA Try.prog 324 "Len" = some (231, false, some 230) := by kernel_rfl
theorem meth324_Less : methA Try.prog 324 "Less" = some (280, false, some 230) := by kernel_rfl
theorem meth324_Pop : methA Try.prog 324 "Pop" = some (284, true, some 230) := by kernel_rfl
theorem meth324_Push : methA Try.prog 324 "Push" = some (285, true, some 230) := by kernel_rfl
theorem meth324_Swap : methA Try.prog 324 "Swap" = some (281, false, some 230) := by kernel_rfl
attribute [push_cast] it3 ty3 ty4 ty5 ty9 ty20 ty23 ty25 ty27 it28 ty28 ty36 ty38 ty41 ty43 ty44 ty52 ty54 ty55 ty56 ty57 ty64 ty68 ty72 ty82 ty83 ty84 ty86 ty91 ty92 ty97 ty113 ty121 ty123 ty125 ty132 ty133 ty146 ty149 ty151 ty158 ty160 ty164 ty180 ty183 ty186 ty188 ty189 ty190 ty193 ty209 ty211 ty223 ty227 ty230 ty232 ty238 ty250 ty258 ty261 ty262 ty264 ty271 ty279 ty288 ty300 ty307 ty308 ty314 ty321 ty324 ty326 fl25 ag25 fl27 ag27 fl64 ag64 fl68 ag68 fl72 ag72 fl113 ag113 fl193 ag193 meth149_Len meth149_Less meth149_Pop meth149_Push meth149_Swap meth324_Len meth324_Less meth324_Pop meth324_Push meth324_Swap
end Go.Proofs.Ytjkdhjmegoblnaa
namespace Go.Proofs.Ytjkdhjmegoblnaa
set_option linter.all false
open Go.RowKit
abbrev In64 (n : Int) : Prop := -9223372036854775808 ≤ n ∧ n ≤ 9223372036854775807
abbrev pI (n : Int) : PV := .v (.int .i64 n)
abbrev pB (b : Bool) : PV := .v (.bool b)
def i64P (n : Int) : List PV := [pI n]
def u64P (n : Nat) : List PV := [.v (.int .u64 n)]
def boolP (b : Bool) : List PV := [pB b]
def strP (s : ByteArray) : List PV := [.v (.string s)]
structure Cel where
  x : Int
  y : Int
  deriving DecidableEq, Inhabited
def celP (c : Cel) : List PV := [pI c.x, pI c.y]
abbrev celA (c : Cel) : AV := .agg [I .i64 c.x, I .i64 c.y]
structure Fld where
  w : Int
  h : Int
  p : List Int
  deriving DecidableEq, Inhabited
abbrev fldA (f : Fld) : AV := .agg [I .i64 f.w, I .i64 f.h, .c (.sl 1 (f.p.map i64P))]
structure Trp where
  id : Int
  owner : Int
  kind : Int
  c : Cel
  life : Int
  load : Int
  deriving DecidableEq, Inhabited
structure Wld where
  f : Fld
  bases : List Cel
  stocks : List Int
  mines : List Int
  troops : List Trp
  next : Int
  now : Int
  deriving DecidableEq, Inhabited
structure Ord where
  by_ : Int
  kind : Int
  who : Int
  c : Cel
  what : Int
  deriving DecidableEq, Inhabited
theorem getD_in {α : Type} [Inhabited α] (f : α → List PV) (l : List α) (i : Nat) (h : i < l.length) : (l.map f).getD i [] = f (l.getD i default) := by
  simp [h]
theorem getD_at {α : Type} [Inhabited α] (l : List α) (i : Nat) (h : i < l.length) : l.getD i default = l[i] := by simp [h]
theorem take_snoc {α : Type} [Inhabited α] (l : List α) (k : Nat) (h : k < l.length) : l.take (k + 1) = l.take k ++ [l.getD k default] := by rw [List.take_succ_eq_append_getElem h, getD_at _ _ h]
def partL {α : Type} (f : α → α) (i : Nat) (g : List α) : List α := (g.take i).map f ++ g.drop i
theorem partL_len {α : Type} (f : α → α) (i : Nat) (g : List α) : (partL f i g).length = g.length := by simp [partL]; omega
theorem partL_0 {α : Type} (f : α → α) (g : List α) : partL f 0 g = g := by simp [partL]
theorem partL_all {α : Type} (f : α → α) (g : List α) : partL f g.length g = g.map f := by simp [partL]
theorem partL_succ {α : Type} [Inhabited α] (f : α → α) (i : Nat) (g : List α) (h : i < g.length) : partL f (i + 1) g = (partL f i g).set i (f (g.getD i default)) := by
  unfold partL
  rw [List.set_append_right _ _ (by simp; omega), getD_at _ _ h]
  rw [List.length_map, List.length_take, Nat.min_eq_left (Nat.le_of_lt h), Nat.sub_self, List.drop_eq_getElem_cons h, List.set_cons_zero, List.take_succ_eq_append_getElem h, List.map_append, List.append_assoc]
  rfl
theorem getD_mem {α : Type} [Inhabited α] (l : List α) (i : Nat) (h : i < l.length) : l.getD i default ∈ l := by rw [getD_at _ _ h]; exact List.getElem_mem h
end Go.Proofs.Ytjkdhjmegoblnaa
namespace Go.Proofs.Ytjkdhjmegoblnaa
set_option linter.all false
open Go.RowKit
section
variable {α : Type} [Inhabited α] (key : α → Int)
def swapL (l : List α) (i j : Nat) : List α := (l.set i (l.getD j default)).set j (l.getD i default)
theorem swapL_len (l : List α) (i j : Nat) : (swapL l i j).length = l.length := by simp [swapL]
theorem swapL_getD (l : List α) {i j k : Nat} (hi : i < l.length) (hj : j < l.length) (hk : k < l.length) : (swapL l i j).getD k default = if k = j then l.getD i default else if k = i then l.getD j default else l.getD k default := by
  unfold swapL
  rw [getD_at _ _ (by simpa using hk), List.getElem_set, List.getElem_set]
  by_cases h1 : j = k
  · rw [if_pos h1, if_pos h1.symm]
  · rw [if_neg h1, if_neg (Ne.symm h1)]
    by_cases h2 : i = k
    · rw [if_pos h2, if_pos h2.symm]
    · rw [if_neg h2, if_neg (Ne.symm h2), getD_at _ _ hk]
theorem mem_getD {l : List α} {x : α} : x ∈ l ↔ ∃ k, k < l.length ∧ l.getD k default = x := by
  constructor
  · intro h
    obtain ⟨k, hk, e⟩ := List.getElem_of_mem h
    exact ⟨k, hk, by rw [getD_at _ _ hk]; exact e⟩
  · rintro ⟨k, hk, rfl⟩
    exact getD_mem l k hk
theorem swapL_mem (l : List α) {i j : Nat} (hi : i < l.length) (hj : j < l.length) (x : α) : x ∈ swapL l i j ↔ x ∈ l := by
  rw [mem_getD, mem_getD, swapL_len]
  constructor
  · rintro ⟨k, hk, e⟩
    rw [swapL_getD l hi hj hk] at e
    split at e
    · exact ⟨i, hi, e⟩
    · split at e
      · exact ⟨j, hj, e⟩
      · exact ⟨k, hk, e⟩
  · rintro ⟨k, hk, e⟩
    by_cases h1 : k = i
    · subst h1
      refine ⟨j, hj, ?_⟩
      rw [swapL_getD l hi hj hj, if_pos rfl]; exact e
    · by_cases h2 : k = j
      · subst h2
        refine ⟨i, hi, ?_⟩
        rw [swapL_getD l hi hj hi]
        by_cases h3 : i = k
        · exact absurd h3.symm h1
        · rw [if_neg h3, if_pos rfl]; exact e
      · exact ⟨k, hk, by rw [swapL_getD l hi hj hk, if_neg h2, if_neg h1]; exact e⟩
def par (k : Nat) : Nat := (k - 1) / 2
theorem par_tdiv (j : Nat) : ((j : Int) - 1).tdiv 2 = ((par j : Nat) : Int) := by
  cases j with
  | zero => rfl
  | succ k =>
    rw [show ((k + 1 : Nat) : Int) - 1 = (k : Int) from by omega, Int.tdiv_eq_ediv_of_nonneg (by omega)]
    simp [par]
def HeapN (l : List α) (n : Nat) : Prop := ∀ k, 0 < k → k < n → key (l.getD (par k) default) ≤ key (l.getD k default)
def hup (l : List α) (j : Nat) : List α := if par j = j ∨ ¬ key (l.getD j default) < key (l.getD (par j) default) then l else hup (swapL l (par j) j) (par j)
termination_by j
decreasing_by simp only [par, not_or] at *; omega
theorem hup_len (l : List α) (j : Nat) : (hup key l j).length = l.length := by
  induction j using Nat.strongRecOn generalizing l with
  | _ j ih =>
    rw [hup]
    split
    · rfl
    · rename_i h
      rw [ih (par j) (by simp only [par, not_or] at *; omega), swapL_len]
theorem hup_mem (l : List α) (j : Nat) (hj : j < l.length) (x : α) : x ∈ hup key l j ↔ x ∈ l := by
  induction j using Nat.strongRecOn generalizing l with
  | _ j ih =>
    rw [hup]
    split
    · rfl
    · rename_i h
      have : par j < j := by simp only [par, not_or] at *; omega
      rw [ih (par j) this _ (by rw [swapL_len]; omega), swapL_mem _ (by omega) hj]
theorem hup_heap (l : List α) (j : Nat) (hj : j < l.length) (h1 : ∀ k, 0 < k → k < l.length → k ≠ j → key (l.getD (par k) default) ≤ key (l.getD k default))
    (h2 : 0 < j → ∀ k, 0 < k → k < l.length → par k = j → key (l.getD (par j) default) ≤ key (l.getD k default)) : HeapN key (hup key l j) l.length := by
  induction j using Nat.strongRecOn generalizing l with
  | _ j ih =>
    rw [hup]
    split
    · rename_i h
      intro k hk hkl
      by_cases e : k = j
      · subst e
        rcases h with h | h
        · simp only [par] at h; omega
        · omega
      · exact h1 k hk hkl e
    · rename_i h
      rw [not_or, Decidable.not_not] at h
      obtain ⟨e1, e2⟩ := h
      have lt : par j < j := by simp only [par] at *; omega
      have hi : par j < l.length := by omega
      have G : ∀ k, k < l.length → (swapL l (par j) j).getD k default = if k = j then l.getD (par j) default else if k = par j then l.getD j default else l.getD k default := fun k hk => swapL_getD l hi hj hk
      have := ih (par j) lt (swapL l (par j) j) (by rw [swapL_len]; exact hi) (fun k hk hkl hne => by
        rw [swapL_len] at hkl
        rw [G k hkl, G (par k) (by simp only [par] at *; omega)]
        by_cases a : k = j
        · subst a
          rw [if_neg (by omega), if_pos rfl, if_pos rfl]; omega
        · rw [if_neg a, if_neg hne]
          by_cases b : par k = j
          · rw [if_pos b]
            exact h2 (by omega) k hk hkl b
          · rw [if_neg b]
            by_cases c : par k = par j
            · rw [if_pos c]
              have := h1 k hk hkl a
              rw [c] at this; omega
            · rw [if_neg c]; exact h1 k hk hkl a) (fun hp k hk hkl hpk => by
        rw [swapL_len] at hkl
        have q1 : par (par j) < par j := by simp only [par] at *; omega
        have q2 := h1 (par j) hp hi (by omega)
        rw [G k hkl, G _ (by omega), if_neg (by omega), if_neg (by omega)]
        by_cases a : k = j
        · rw [if_pos a]; exact q2
        · have : k ≠ par j := by intro e; rw [e] at hpk; omega
          rw [if_neg a, if_neg this]
          have := h1 k hk hkl a
          rw [hpk] at this; omega)
      rwa [swapL_len] at this
def kid (l : List α) (i n : Nat) : Nat := if 2 * i + 2 < n ∧ key (l.getD (2 * i + 2) default) < key (l.getD (2 * i + 1) default) then 2 * i + 2 else 2 * i + 1
theorem kid_gt (l : List α) (i n : Nat) : i < kid key l i n := by unfold kid; split <;> omega
theorem kid_lt (l : List α) (i n : Nat) (h : 2 * i + 1 < n) : kid key l i n < n := by unfold kid; split <;> omega
def hdn (l : List α) (i n : Nat) : List α := if n ≤ 2 * i + 1 ∨ ¬ key (l.getD (kid key l i n) default) < key (l.getD i default) then l else hdn (swapL l i (kid key l i n)) (kid key l i n) n
termination_by n - i
decreasing_by
  rename_i h
  have h1 := kid_gt key l i n
  rw [not_or] at h
  omega
theorem hdn_len (l : List α) (i n : Nat) : (hdn key l i n).length = l.length := by
  induction hm : n - i using Nat.strongRecOn generalizing l i with
  | _ m ih =>
    rw [hdn]
    split
    · rfl
    · rename_i h
      have h1 := kid_gt key l i n
      rw [ih _ (by omega) _ _ rfl, swapL_len]
theorem hdn_mem (l : List α) (i n : Nat) (hn : n ≤ l.length) (x : α) : x ∈ hdn key l i n ↔ x ∈ l := by
  induction hm : n - i using Nat.strongRecOn generalizing l i with
  | _ m ih =>
    rw [hdn]
    split
    · rfl
    · rename_i h
      have h1 := kid_gt key l i n
      have h2 := kid_lt key l i n (by omega)
      rw [ih _ (by omega) _ _ (by rw [swapL_len]; exact hn) rfl, swapL_mem _ (by omega) (by omega)]
theorem hdn_out (l : List α) (i n k : Nat) (hn : n ≤ l.length) (hk : n ≤ k) (hkl : k < l.length) : (hdn key l i n).getD k default = l.getD k default := by
  induction hm : n - i using Nat.strongRecOn generalizing l i with
  | _ m ih =>
    rw [hdn]
    split
    · rfl
    · rename_i h
      have h1 := kid_gt key l i n
      have h2 := kid_lt key l i n (by omega)
      rw [ih _ (by omega) _ _ (by rw [swapL_len]; exact hn) (by rw [swapL_len]; exact hkl) rfl, swapL_getD _ (by omega) (by omega) hkl, if_neg (by omega), if_neg (by omega)]
theorem hdn_heap (l : List α) (i n : Nat) (hn : n ≤ l.length) (h1 : ∀ k, 0 < k → k < n → par k ≠ i → key (l.getD (par k) default) ≤ key (l.getD k default))
    (h2 : 0 < i → ∀ k, 0 < k → k < n → par k = i → key (l.getD (par i) default) ≤ key (l.getD k default)) : HeapN key (hdn key l i n) n := by
  induction hm : n - i using Nat.strongRecOn generalizing l i with
  | _ m ih =>
    have kd : ∀ k, 0 < k → k < n → par k = i → key (l.getD (kid key l i n) default) ≤ key (l.getD k default) := by
      intro k hk hkn hp
      have : k = 2 * i + 1 ∨ k = 2 * i + 2 := by simp only [par] at hp; omega
      unfold kid
      rcases this with e | e
      · subst e
        split
        · rename_i h; omega
        · exact Int.le_refl _
      · subst e
        split
        · exact Int.le_refl _
        · rename_i h
          by_cases h3 : key (l.getD (2 * i + 2) default) < key (l.getD (2 * i + 1) default)
          · exact absurd ⟨hkn, h3⟩ h
          · omega
    rw [hdn]
    split
    · rename_i h
      intro k hk hkn
      by_cases e : par k = i
      · rcases h with h | h
        · simp only [par] at e; omega
        · have := kd k hk hkn e
          rw [e]; omega
      · exact h1 k hk hkn e
    · rename_i h
      rw [not_or, Decidable.not_not] at h
      have g1 := kid_gt key l i n
      have g2 := kid_lt key l i n (by omega)
      have gp : par (kid key l i n) = i := by unfold kid; simp only [par]; split <;> omega
      generalize kid key l i n = j at *
      have G : ∀ k, k < l.length → (swapL l i j).getD k default = if k = j then l.getD i default else if k = i then l.getD j default else l.getD k default := fun k hk => swapL_getD l (by omega) (by omega) hk
      refine ih (n - j) (by omega) (swapL l i j) j (by rw [swapL_len]; exact hn) (fun k hk hkn hpk => ?_) (fun hj k hk hkn hpk => ?_) rfl
      · have hp : par k < k := by simp only [par] at *; omega
        rw [G k (by omega), G (par k) (by omega)]
        by_cases a : k = j
        · subst a
          rw [if_pos rfl, if_neg (by omega), if_pos gp]; omega
        · rw [if_neg a, if_neg hpk]
          by_cases b : k = i
          · subst b
            rw [if_pos rfl, if_neg (by omega)]
            have := h2 hk j (by omega) (by omega) gp
            exact this
          · rw [if_neg b]
            by_cases c : par k = i
            · rw [if_pos c]; exact kd k hk hkn c
            · rw [if_neg c]; exact h1 k hk hkn c
      · have hp : par k < k := by simp only [par] at *; omega
        rw [G k (by omega), if_neg (by omega), if_neg (by omega), gp, G i (by omega), if_neg (by omega), if_pos rfl]
        have := h1 k hk hkn (by omega)
        rw [hpk] at this; exact this
theorem heap_min {l : List α} {n : Nat} (h : HeapN key l n) : ∀ k, k < n → key (l.getD 0 default) ≤ key (l.getD k default) := by
  intro k
  induction k using Nat.strongRecOn with
  | _ k ih =>
    intro hk
    rcases Nat.eq_zero_or_pos k with e | e
    · subst e; exact Int.le_refl _
    · have := ih (par k) (by simp only [par]; omega) (by simp only [par]; omega)
      have := h k e hk
      omega
def hpush (l : List α) (x : α) : List α := hup key (l ++ [x]) l.length
def hpop (l : List α) : List α := (hdn key (swapL l 0 (l.length - 1)) 0 (l.length - 1)).take (l.length - 1)
theorem getD_snoc (l : List α) (x : α) (k : Nat) (h : k < l.length) : (l ++ [x]).getD k default = l.getD k default := by
  rw [getD_at _ _ (by simp; omega), getD_at _ _ h, List.getElem_append_left h]
theorem hpush_len (l : List α) (x : α) : (hpush key l x).length = l.length + 1 := by unfold hpush; rw [hup_len]; simp
theorem hpush_mem (l : List α) (x y : α) : y ∈ hpush key l x ↔ y ∈ l ∨ y = x := by
  unfold hpush
  rw [hup_mem _ _ _ (by simp)]; simp
theorem hpush_heap (l : List α) (x : α) (h : HeapN key l l.length) : HeapN key (hpush key l x) (hpush key l x).length := by
  rw [hpush_len]
  have := hup_heap key (l ++ [x]) l.length (by simp) (fun k hk hkl hne => by
    simp only [List.length_append, List.length_cons, List.length_nil] at hkl
    have : par k < k := by simp only [par] at *; omega
    rw [getD_snoc _ _ _ (by omega), getD_snoc _ _ _ (by omega)]; exact h k hk (by omega)) (fun _ k hk hkl hp => by
    simp only [List.length_append, List.length_cons, List.length_nil, par] at *; omega)
  simpa [hpush] using this
theorem take_getD (l : List α) (n k : Nat) (h : k < n) : (l.take n).getD k default = l.getD k default := by
  simp only [List.getD_eq_getElem?_getD, List.getElem?_take, if_pos h]
theorem hpop_len (l : List α) : (hpop key l).length = l.length - 1 := by unfold hpop; rw [List.length_take, hdn_len, swapL_len]; omega
theorem hpop_heap (l : List α) (hl : 0 < l.length) (h : HeapN key l l.length) : HeapN key (hpop key l) (hpop key l).length := by
  rw [hpop_len]
  have := hdn_heap key (swapL l 0 (l.length - 1)) 0 (l.length - 1) (by rw [swapL_len]; omega) (fun k hk hkn hp => by
    have q : par k < k := by simp only [par] at *; omega
    rw [swapL_getD _ (by omega) (by omega) (by omega), swapL_getD _ (by omega) (by omega) (by omega), if_neg (by omega), if_neg (by omega), if_neg (by omega), if_neg (by omega)]
    exact h k hk (by omega)) (fun h0 => absurd h0 (Nat.lt_irrefl _))
  intro k hk hkn
  unfold hpop
  rw [take_getD _ _ _ hkn, take_getD _ _ _ (by simp only [par] at *; omega)]
  exact this k hk hkn
theorem hpop_last (l : List α) (hl : 0 < l.length) : (hdn key (swapL l 0 (l.length - 1)) 0 (l.length - 1)).getD (l.length - 1) default = l.getD 0 default := by
  rw [hdn_out _ _ _ _ _ (by rw [swapL_len]; omega) (Nat.le_refl _) (by rw [swapL_len]; omega), swapL_getD _ hl (by omega) (by omega), if_pos rfl]
theorem hpop_mem (l : List α) (hl : 0 < l.length) (x : α) : x ∈ l ↔ x = l.getD 0 default ∨ x ∈ hpop key l := by
  have e : hdn key (swapL l 0 (l.length - 1)) 0 (l.length - 1) = hpop key l ++ [l.getD 0 default] := by
    have h1 := hpop_last key l hl
    have h2 : (hdn key (swapL l 0 (l.length - 1)) 0 (l.length - 1)).length = l.length - 1 + 1 := by rw [hdn_len, swapL_len]; omega
    unfold hpop
    rw [← h1, ← take_snoc _ _ (by omega), List.take_of_length_le (by omega)]
  rw [← swapL_mem l hl (show l.length - 1 < l.length by omega), ← hdn_mem key _ 0 (l.length - 1) (by rw [swapL_len]; omega), e]
  simp [or_comm]
end
end Go.Proofs.Ytjkdhjmegoblnaa
namespace Go.Proofs.Ytjkdhjmegoblnaa
set_option linter.all false
open Go.RowKit
def Adj (W p n : Nat) : Prop := n + W = p ∨ (n + 1 = p ∧ 0 < p % W) ∨ (p + 1 = n ∧ 0 < n % W) ∨ p + W = n
theorem Adj.symm {W p n : Nat} (h : Adj W p n) : Adj W n p := by
  rcases h with h | ⟨h, h'⟩ | ⟨h, h'⟩ | h
  · exact .inr (.inr (.inr h))
  · exact .inr (.inr (.inl ⟨h, h'⟩))
  · exact .inr (.inl ⟨h, h'⟩)
  · exact .inl h
theorem Adj.ne {W p n : Nat} (hW : 0 < W) (h : Adj W p n) : p ≠ n := by
  rcases h with h | ⟨h, h'⟩ | ⟨h, h'⟩ | h <;> omega
def besideN (W H p : Nat) : List Nat := (if 0 < p / W then [p - W] else []) ++ (if 0 < p % W then [p - 1] else []) ++ (if p % W + 1 < W then [p + 1] else []) ++ (if p / W + 1 < H then [p + W] else [])
theorem besideN_len (W H p : Nat) : (besideN W H p).length ≤ 4 := by
  unfold besideN
  simp only [List.length_append]
  split <;> split <;> split <;> split <;> simp
theorem succ_mod {W : Nat} (hW : 0 < W) (p : Nat) : (p + 1) % W = if p % W + 1 = W then 0 else p % W + 1 := by
  have h1 := Nat.div_add_mod p W
  have h2 := Nat.mod_lt p hW
  have e : p + 1 = W * (p / W) + (p % W + 1) := by omega
  rw [e, Nat.mul_add_mod]
  split
  · rename_i h; rw [h, Nat.mod_self]
  · rename_i h; exact Nat.mod_eq_of_lt (by omega)
theorem mem_beside {W H p n : Nat} (hW : 0 < W) (hp : p < W * H) : n ∈ besideN W H p ↔ n < W * H ∧ Adj W p n := by
  have h1 := Nat.div_add_mod p W
  have h2 := Nat.mod_lt p hW
  have h3 : p / W < H := by rw [Nat.div_lt_iff_lt_mul hW, Nat.mul_comm]; exact hp
  have h4 : 0 < p / W ↔ W ≤ p := by rw [Nat.div_pos_iff]; exact ⟨fun h => h.2, fun h => ⟨hW, h⟩⟩
  have h5 : p / W + 1 < H ↔ p + W < W * H := by
    have : (p + W) / W = p / W + 1 := Nat.add_div_right p hW
    rw [← this, Nat.div_lt_iff_lt_mul hW, Nat.mul_comm]
  have h6 := succ_mod hW p
  have h7 : p % W + 1 < W → p + 1 < W * H := by
    intro h
    have : W * (p / W) + W ≤ W * H := by rw [← Nat.mul_succ]; exact Nat.mul_le_mul_left _ h3
    omega
  unfold besideN Adj
  simp only [List.mem_append]
  constructor
  · rintro (((h | h) | h) | h)
    · split at h
      · rename_i g
        simp only [List.mem_singleton] at h
        have := h4.1 g
        exact ⟨by omega, .inl (by omega)⟩
      · simp at h
    · split at h
      · rename_i g
        simp only [List.mem_singleton] at h
        have : 0 < p := Nat.pos_of_ne_zero fun e => by rw [e] at g; simp at g
        exact ⟨by omega, .inr (.inl ⟨by omega, g⟩)⟩
      · simp at h
    · split at h
      · rename_i g
        simp only [List.mem_singleton] at h
        rw [if_neg (by omega)] at h6
        have := h7 g
        exact ⟨by omega, .inr (.inr (.inl ⟨by omega, by rw [h, h6]; omega⟩))⟩
      · simp at h
    · split at h
      · rename_i g
        simp only [List.mem_singleton] at h
        have := h5.1 g
        exact ⟨by omega, .inr (.inr (.inr (by omega)))⟩
      · simp at h
  · rintro ⟨hn, h | ⟨h, h'⟩ | ⟨h, h'⟩ | h⟩
    · refine .inl (.inl (.inl ?_))
      rw [if_pos (h4.2 (by omega))]; simp; omega
    · refine .inl (.inl (.inr ?_))
      rw [if_pos h']; simp; omega
    · refine .inl (.inr ?_)
      rw [if_pos]
      · simp; omega
      · rw [← h, h6] at h'
        split at h'
        · omega
        · omega
    · refine .inr ?_
      rw [if_pos (h5.2 (by omega))]; simp; omega
def kV (q : Int) : Int := if q = 2 then 3 else 2
theorem kV_b (q : Int) : 2 ≤ kV q ∧ kV q ≤ 3 := by unfold kV; split <;> omega
theorem set_get {l : List Int} {i : Nat} (v : Int) (p : Nat) (hi : i < l.length) : (l.set i v).getD p default = if p = i then v else l.getD p default := by
  by_cases h : p = i
  · subst h; rw [if_pos rfl, getD_at _ _ (by simpa using hi)]; simp
  · rw [if_neg h]
    simp only [List.getD_eq_getElem?_getD, List.getElem?_set, if_neg (Ne.symm h)]
structure Flood (W : Nat) (pl : List Int) (s : List Nat) (far : List Int) : Prop where
  len : far.length = pl.length
  low : ∀ p, p < pl.length → -1 ≤ far.getD p default
  src : ∀ p ∈ s, far.getD p default = 0
  why : ∀ p, p < pl.length → 0 ≤ far.getD p default → (p ∈ s ∧ far.getD p default = 0) ∨ ∃ n, n < pl.length ∧ Adj W p n ∧ pl.getD p default ≠ 1 ∧ 0 ≤ far.getD n default ∧ far.getD n default + kV (pl.getD p default) ≤ far.getD p default
  all : ∀ p n, p < pl.length → n < pl.length → Adj W p n → 0 ≤ far.getD p default → pl.getD n default ≠ 1 → 0 ≤ far.getD n default ∧ far.getD n default ≤ far.getD p default + kV (pl.getD n default)
theorem Flood.le {W : Nat} {pl : List Int} {s : List Nat} {f g : List Int} (hf : Flood W pl s f) (hg : Flood W pl s g) : ∀ (N p : Nat), p < pl.length → 0 ≤ f.getD p default → f.getD p default ≤ N → 0 ≤ g.getD p default ∧ g.getD p default ≤ f.getD p default := by
  intro N
  induction N using Nat.strongRecOn with
  | _ N ih =>
    intro p hp h0 hN
    rcases hf.why p hp h0 with ⟨h1, h2⟩ | ⟨n, hn, ha, hr, h3, h4⟩
    · rw [hg.src p h1]; omega
    · have hk := kV_b (pl.getD p default)
      obtain ⟨k, hk2⟩ := Int.eq_ofNat_of_zero_le h3
      have := ih k (by omega) n hn h3 (by omega)
      have := hg.all n p hn hp ha.symm this.1 hr
      omega
theorem Flood.uniq {W : Nat} {pl : List Int} {s : List Nat} {f g : List Int} (hf : Flood W pl s f) (hg : Flood W pl s g) : f = g := by
  refine List.ext_getElem (hf.len.trans hg.len.symm) fun p h1 h2 => ?_
  rw [← getD_at f p h1, ← getD_at g p h2]
  have hp : p < pl.length := by rw [← hf.len]; exact h1
  have l1 := hf.low p hp
  have l2 := hg.low p hp
  by_cases h : 0 ≤ f.getD p default
  · obtain ⟨k, hk⟩ := Int.eq_ofNat_of_zero_le h
    have a := hf.le hg k p hp h (by omega)
    obtain ⟨k', hk'⟩ := Int.eq_ofNat_of_zero_le a.1
    have b := hg.le hf k' p hp a.1 (by omega)
    omega
  · by_cases h' : 0 ≤ g.getD p default
    · obtain ⟨k', hk'⟩ := Int.eq_ofNat_of_zero_le h'
      have b := hg.le hf k' p hp h' (by omega)
      omega
    · omega
def sumL (g : Int → Nat) (l : List Int) : Nat := (l.map g).sum
theorem sumL_set (g : Int → Nat) : ∀ (l : List Int) (i : Nat) (v : Int), i < l.length → sumL g (l.set i v) + g (l.getD i default) = sumL g l + g v
  | [], i, v, h => by simp at h
  | a :: r, 0, v, _ => by simp [sumL]; omega
  | a :: r, i + 1, v, h => by
    have := sumL_set g r i v (by simpa using h)
    simp only [sumL, List.set_cons_succ, List.map_cons, List.sum_cons, List.getD_cons_succ] at this ⊢
    omega
theorem sumL_le (g : Int → Nat) (b : Nat) (hg : ∀ x, g x ≤ b) : ∀ l : List Int, sumL g l ≤ b * l.length
  | [] => by simp [sumL]
  | a :: r => by
    have := sumL_le g b hg r
    have := hg a
    simp only [sumL, List.map_cons, List.sum_cons, List.length_cons, Nat.mul_add] at *
    omega
def one0 (x : Int) : Nat := if 0 ≤ x then 1 else 0
def big0 (x : Int) : Nat := if 0 ≤ x then x.toNat else 5000
theorem one0_le (x : Int) : one0 x ≤ 1 := by unfold one0; split <;> omega
theorem big0_rep (n : Nat) : sumL one0 (List.replicate n (-1)) = 0 := by
  induction n with
  | zero => rfl
  | succ n ih => simp only [List.replicate_succ, sumL, List.map_cons, List.sum_cons] at ih ⊢; rw [ih]; rfl
theorem getD_rep (n p : Nat) (h : p < n) : (List.replicate n (-1 : Int)).getD p default = -1 := by rw [getD_at _ _ (by simpa using h)]; simp
structure Itm where
  place : Int
  far : Int
  deriving DecidableEq, Inhabited
structure Dj (W : Nat) (pl : List Int) (s : List Nat) (far : List Int) (q : List Itm) (done : Nat → Nat → Prop) : Prop where
  len : far.length = pl.length
  low : ∀ p, p < pl.length → -1 ≤ far.getD p default
  heap : HeapN Itm.far q q.length
  itm : ∀ x ∈ q, ∃ p : Nat, x.place = (p : Int) ∧ p < pl.length ∧ 0 ≤ x.far ∧ x.far ≤ 3 * sumL one0 far ∧ (∀ m, m < pl.length → far.getD m default ≤ x.far) ∧ ((p ∈ s ∧ x.far = 0) ∨ ∃ n, n < pl.length ∧ Adj W p n ∧ pl.getD p default ≠ 1 ∧ 0 ≤ far.getD n default ∧ x.far = far.getD n default + kV (pl.getD p default))
  src : ∀ p ∈ s, far.getD p default = 0 ∨ (far.getD p default < 0 ∧ ∃ x ∈ q, x.place = (p : Int) ∧ x.far = 0)
  why : ∀ p, p < pl.length → 0 ≤ far.getD p default → (p ∈ s ∧ far.getD p default = 0) ∨ ∃ n, n < pl.length ∧ Adj W p n ∧ pl.getD p default ≠ 1 ∧ 0 ≤ far.getD n default ∧ far.getD n default + kV (pl.getD p default) ≤ far.getD p default
  all : ∀ p n, p < pl.length → n < pl.length → Adj W p n → done p n → 0 ≤ far.getD p default → pl.getD n default ≠ 1 →
    (0 ≤ far.getD n default ∧ far.getD n default ≤ far.getD p default + kV (pl.getD n default)) ∨ (far.getD n default < 0 ∧ ∃ x ∈ q, x.place = (n : Int) ∧ x.far ≤ far.getD p default + kV (pl.getD n default))
section
variable {W : Nat} {pl : List Int} {s : List Nat} {far : List Int} {q : List Itm} {done : Nat → Nat → Prop}
theorem Dj.flood (h : Dj W pl s far [] fun _ _ => True) : Flood W pl s far := by
  refine ⟨h.len, h.low, fun p hp => ?_, h.why, fun p n hp hn ha h0 hr => ?_⟩
  · rcases h.src p hp with h | ⟨_, x, hx, _⟩
    · exact h
    · simp at hx
  · rcases h.all p n hp hn ha trivial h0 hr with h | ⟨_, x, hx, _⟩
    · exact h
    · simp at hx
theorem Dj.skip (h : Dj W pl s far q done) (hq : 0 < q.length) {p : Nat} (hp : (q.getD 0 default).place = (p : Int)) (h0 : 0 ≤ far.getD p default) : Dj W pl s far (hpop Itm.far q) done := by
  have M := hpop_mem Itm.far q hq
  refine ⟨h.len, h.low, hpop_heap _ _ hq h.heap, fun x hx => h.itm x ((M x).2 (.inr hx)), fun p' hp' => ?_, h.why, fun p' n h1 h2 h3 h4 h5 h6 => ?_⟩
  · rcases h.src p' hp' with h7 | ⟨h7, x, hx, h8, h9⟩
    · exact .inl h7
    · refine .inr ⟨h7, x, ?_, h8, h9⟩
      rcases (M x).1 hx with e | e
      · subst e; rw [hp] at h8; have : p = p' := by omega
        subst this; omega
      · exact e
  · rcases h.all p' n h1 h2 h3 h4 h5 h6 with h7 | ⟨h7, x, hx, h8, h9⟩
    · exact .inl h7
    · refine .inr ⟨h7, x, ?_, h8, h9⟩
      rcases (M x).1 hx with e | e
      · subst e; rw [hp] at h8; have : p = n := by omega
        subst this; omega
      · exact e
theorem Dj.close (hW : 0 < W) (h : Dj W pl s far q fun _ _ => True) (hq : 0 < q.length) {p : Nat} (hp : (q.getD 0 default).place = (p : Int)) (h0 : far.getD p default < 0) :
    p < pl.length ∧ Dj W pl s (far.set p (q.getD 0 default).far) (hpop Itm.far q) (fun a _ => a ≠ p) := by
  have M := hpop_mem Itm.far q hq
  have mem0 : q.getD 0 default ∈ q := (M _).2 (.inl rfl)
  obtain ⟨p', e1, hpl, j0, jb, jm, jw⟩ := h.itm _ mem0
  obtain rfl : p' = p := by omega
  have least : ∀ x ∈ q, (q.getD 0 default).far ≤ x.far := fun x hx => by
    obtain ⟨k, hk, rfl⟩ := mem_getD.1 hx
    exact heap_min _ h.heap k hk
  have hp'l : p' < far.length := by rw [h.len]; exact hpl
  generalize (q.getD 0 default).far = d at *
  have G := fun k => set_get d k hp'l
  have cnt : sumL one0 (far.set p' d) = sumL one0 far + 1 := by
    have := sumL_set one0 far p' d hp'l
    simp only [one0, if_neg (show ¬ 0 ≤ far.getD p' default by omega), if_pos j0] at this; simpa [one0] using this
  refine ⟨hpl, by rw [List.length_set]; exact h.len, fun k hk => ?_, hpop_heap _ _ hq h.heap, fun x hx => ?_, fun k hk => ?_, fun k hk hk0 => ?_, fun a n h1 h2 h3 h4 h5 h6 => ?_⟩
  · rw [G]; split
    · omega
    · exact h.low k hk
  · have hx' := (M x).2 (.inr hx)
    obtain ⟨k, e2, hk, l0, lb, lm, lw⟩ := h.itm x hx'
    refine ⟨k, e2, hk, l0, by rw [cnt]; omega, fun m hm => ?_, ?_⟩
    · rw [G]; split
      · exact least x hx'
      · exact lm m hm
    · rcases lw with lw | ⟨n, n1, n2, n3, n4, n5⟩
      · exact .inl lw
      · refine .inr ⟨n, n1, n2, n3, ?_⟩
        rw [G, if_neg (by intro e; subst e; omega)]; exact ⟨n4, n5⟩
  · rw [G]
    rcases h.src k hk with h7 | ⟨h7, x, hx, h8, h9⟩
    · rw [if_neg (by intro e; subst e; omega)]; exact .inl h7
    · by_cases e : k = p'
      · subst e
        rw [if_pos rfl]
        have := least x hx
        exact .inl (by omega)
      · rw [if_neg e]
        refine .inr ⟨h7, x, ?_, h8, h9⟩
        rcases (M x).1 hx with e3 | e3
        · subst e3; omega
        · exact e3
  · rw [G] at hk0 ⊢
    by_cases e : k = p'
    · subst e
      rw [if_pos rfl]
      rcases jw with jw | ⟨n, n1, n2, n3, n4, n5⟩
      · exact .inl jw
      · refine .inr ⟨n, n1, n2, n3, ?_⟩
        rw [G, if_neg (by intro e; subst e; omega)]; omega
    · rw [if_neg e] at hk0 ⊢
      rcases h.why k hk hk0 with jw | ⟨n, n1, n2, n3, n4, n5⟩
      · exact .inl jw
      · refine .inr ⟨n, n1, n2, n3, ?_⟩
        rw [G, if_neg (by intro e; subst e; omega)]; exact ⟨n4, n5⟩
  · rw [G, if_neg h4] at h5
    rw [G, G, if_neg h4]
    rcases h.all a n h1 h2 h3 trivial h5 h6 with h7 | ⟨h7, x, hx, h8, h9⟩
    · rw [if_neg (by intro e; subst e; omega)]; exact .inl h7
    · by_cases e : n = p'
      · subst e
        rw [if_pos rfl]
        have := least x hx
        exact .inl ⟨j0, by omega⟩
      · rw [if_neg e]
        refine .inr ⟨h7, x, ?_, h8, h9⟩
        rcases (M x).1 hx with e3 | e3
        · subst e3; omega
        · exact e3
theorem Dj.look {p n : Nat} (h : Dj W pl s far q done) (hn : n < pl.length) (hp : p < pl.length) (ha : Adj W p n) (h0 : 0 ≤ far.getD p default) (top : ∀ m, m < pl.length → far.getD m default ≤ far.getD p default) (hb : far.getD p default + 3 ≤ 3 * sumL one0 far) (done' : Nat → Nat → Prop) (hd : ∀ a b, done' a b → done a b ∨ (a = p ∧ b = n))
    {q' : List Itm} (hq' : ((pl.getD n default = 1 ∨ 0 ≤ far.getD n default) ∧ q' = q) ∨ (pl.getD n default ≠ 1 ∧ far.getD n default < 0 ∧ q' = hpush Itm.far q ⟨(n : Int), far.getD p default + kV (pl.getD n default)⟩)) : Dj W pl s far q' done' := by
  have sub : ∀ x ∈ q, x ∈ q' := fun x hx => by
    rcases hq' with ⟨_, rfl⟩ | ⟨_, _, rfl⟩
    · exact hx
    · exact (hpush_mem _ _ _ _).2 (.inl hx)
  refine ⟨h.len, h.low, ?_, fun x hx => ?_, fun k hk => ?_, h.why, fun a b h1 h2 h3 h4 h5 h6 => ?_⟩
  · rcases hq' with ⟨_, rfl⟩ | ⟨_, _, rfl⟩
    · exact h.heap
    · exact hpush_heap _ _ _ h.heap
  · rcases hq' with ⟨_, rfl⟩ | ⟨g1, g2, rfl⟩
    · exact h.itm x hx
    · rcases (hpush_mem _ _ _ _).1 hx with e | e
      · exact h.itm x e
      · subst e
        have hk := kV_b (pl.getD n default)
        exact ⟨n, rfl, hn, by simp only; omega, by simp only; omega, fun m hm => by have := top m hm; simp only; omega, .inr ⟨p, hp, ha.symm, g1, h0, rfl⟩⟩
  · rcases h.src k hk with h7 | ⟨h7, x, hx, h8, h9⟩
    · exact .inl h7
    · exact .inr ⟨h7, x, sub x hx, h8, h9⟩
  · rcases hd a b h4 with h4 | ⟨rfl, rfl⟩
    · rcases h.all a b h1 h2 h3 h4 h5 h6 with h7 | ⟨h7, x, hx, h8, h9⟩
      · exact .inl h7
      · exact .inr ⟨h7, x, sub x hx, h8, h9⟩
    · rcases hq' with ⟨g | g, rfl⟩ | ⟨g1, g2, rfl⟩
      · exact absurd g h6
      · have hk := kV_b (pl.getD b default)
        have := top b hn
        exact .inl ⟨g, by omega⟩
      · exact .inr ⟨g2, _, (hpush_mem _ _ _ _).2 (.inr rfl), rfl, Int.le_refl _⟩
theorem Dj.start (hs : ∀ p ∈ s, p < pl.length) (hh : HeapN Itm.far q q.length) (h1 : ∀ x ∈ q, ∃ p ∈ s, x.place = (p : Int) ∧ x.far = 0) (h2 : ∀ p ∈ s, ∃ x ∈ q, x.place = (p : Int) ∧ x.far = 0) : Dj W pl s (List.replicate pl.length (-1)) q fun _ _ => True := by
  have G := fun p hp => getD_rep pl.length p hp
  refine ⟨by simp, fun p hp => by rw [G p hp]; omega, hh, fun x hx => ?_, fun p hp => .inr ⟨by rw [G p (hs p hp)]; omega, h2 p hp⟩, fun p hp h0 => ?_, fun p n hp _ _ _ h0 _ => ?_⟩
  · obtain ⟨p, hp, e1, e2⟩ := h1 x hx
    exact ⟨p, e1, hs p hp, by omega, by omega, fun m hm => by rw [G m hm]; omega, .inl ⟨hp, e2⟩⟩
  · rw [G p hp] at h0; omega
  · rw [G p hp] at h0; omega
end
structure Bf (W : Nat) (pl : List Int) (s : List Nat) (far : List Int) : Prop where
  len : far.length = pl.length
  low : ∀ p, p < pl.length → -1 ≤ far.getD p default
  src : ∀ p ∈ s, far.getD p default = 0
  why : ∀ p, p < pl.length → 0 ≤ far.getD p default → (p ∈ s ∧ far.getD p default = 0) ∨ ∃ n, n < pl.length ∧ Adj W p n ∧ pl.getD p default ≠ 1 ∧ 0 ≤ far.getD n default ∧ far.getD n default + kV (pl.getD p default) ≤ far.getD p default
  top : ∀ p, p < pl.length → far.getD p default ≤ 3 * sumL one0 far
def fine (pl far : List Int) (i n : Nat) : Prop := pl.getD i default = 1 ∨ far.getD n default < 0 ∨ (0 ≤ far.getD i default ∧ far.getD i default ≤ far.getD n default + kV (pl.getD i default))
section
variable {W : Nat} {pl : List Int} {s : List Nat} {far : List Int}
theorem Bf.flood (h : Bf W pl s far) (hf : ∀ i n, i < pl.length → n < pl.length → Adj W i n → fine pl far i n) : Flood W pl s far := by
  refine ⟨h.len, h.low, h.src, h.why, fun p n hp hn ha h0 hr => ?_⟩
  rcases hf n p hn hp ha.symm with h1 | h1 | h1
  · exact absurd h1 hr
  · omega
  · exact h1
theorem Bf.better (h : Bf W pl s far) (hl : pl.length ≤ 1600) {i n : Nat} (hi : i < pl.length) (hn : n < pl.length) (ha : Adj W i n) (hne : i ≠ n) (hf : ¬ fine pl far i n) :
    Bf W pl s (far.set i (far.getD n default + kV (pl.getD i default))) ∧ sumL big0 (far.set i (far.getD n default + kV (pl.getD i default))) < sumL big0 far := by
  unfold fine at hf
  rw [not_or, not_or] at hf
  obtain ⟨f1, f2, f3⟩ := hf
  have hk := kV_b (pl.getD i default)
  have hil : i < far.length := by rw [h.len]; exact hi
  have top := h.top n hn
  have c1 := sumL_le one0 1 one0_le far
  rw [h.len] at c1
  obtain ⟨d, hd⟩ : ∃ d, d = far.getD n default + kV (pl.getD i default) := ⟨_, rfl⟩
  rw [← hd]
  have G := fun k => set_get d k hil
  have cnt := sumL_set one0 far i d hil
  have bg := sumL_set big0 far i d hil
  have o1 : one0 d = 1 := by unfold one0; rw [if_pos (by omega)]
  have b1 : big0 d = d.toNat := by unfold big0; rw [if_pos (by omega)]
  rw [o1] at cnt
  rw [b1] at bg
  have o2 := one0_le (far.getD i default)
  refine ⟨⟨by rw [List.length_set]; exact h.len, fun k hk2 => ?_, fun k hk2 => ?_, fun k hk2 hk0 => ?_, fun k hk2 => ?_⟩, ?_⟩
  · rw [G]; split
    · omega
    · exact h.low k hk2
  · rw [G, if_neg]
    · exact h.src k hk2
    · intro e; subst e
      have := h.src _ hk2
      exact f3 ⟨by omega, by omega⟩
  · rw [G] at hk0 ⊢
    by_cases e : k = i
    · subst e
      rw [if_pos rfl]
      refine .inr ⟨n, hn, ha, f1, ?_⟩
      rw [G, if_neg (Ne.symm hne)]; omega
    · rw [if_neg e] at hk0 ⊢
      rcases h.why k hk2 hk0 with jw | ⟨m, n1, n2, n3, n4, n5⟩
      · exact .inl jw
      · refine .inr ⟨m, n1, n2, n3, ?_⟩
        rw [G]
        split
        · rename_i e2; subst e2; omega
        · exact ⟨n4, n5⟩
  · rw [G]; split
    · by_cases hneg : 0 ≤ far.getD i default
      · have : one0 (far.getD i default) = 1 := by unfold one0; rw [if_pos hneg]
        have := h.top i hi
        omega
      · have : one0 (far.getD i default) = 0 := by unfold one0; rw [if_neg hneg]
        omega
    · have := h.top k hk2; omega
  · by_cases hneg : 0 ≤ far.getD i default
    · have : big0 (far.getD i default) = (far.getD i default).toNat := by unfold big0; rw [if_pos hneg]
      omega
    · have : big0 (far.getD i default) = 5000 := by unfold big0; rw [if_neg hneg]
      omega
end
end Go.Proofs.Ytjkdhjmegoblnaa
namespace Go.Proofs.Ytjkdhjmegoblnaa
set_option linter.all false
open Go.RowKit
set_option maxRecDepth 100000
theorem ixOf_any {α : Type} (p : α → Bool) (l : List α) : decide (0 ≤ ixOf p l) = l.any p := by
  unfold ixOf
  cases h : l.findIdx? p with
  | none =>
    have := List.findIdx?_eq_none_iff.1 h
    simp only [show ¬ (0 : Int) ≤ -1 by omega, decide_false]
    symm; rw [List.any_eq_false]; intro x hx; simp [this x hx]
  | some i =>
    obtain ⟨hi, h1, _⟩ := List.findIdx?_eq_some_iff_getElem.1 h
    simp only [Int.natCast_nonneg, decide_true]
    symm; rw [List.any_eq_true]; exact ⟨_, List.getElem_mem hi, h1⟩
theorem int_ix (F : FuncId) (a b : List AV) (l : List Int) (p : Int → Bool) (hl : l.length ≤ 9223372036854775807) (hp : ∀ n ∈ l, Spec Try.prog F (a ++ [I .i64 n] ++ b) [] (B (p n)) []) (ha : ∀ h, cvL [] h a = a) (hb : ∀ h, cvL [] h b = b) :
    Spec Try.prog 207 [.c (.sl 1 (l.map i64P)), .clo (.func F) a b] [] (I .i64 (ixOf p l)) [] := by
  refine spec_am Try.func207 rfl rfl mix 19 rfl [.tmp 4] Try.results207 (Nat.le_of_ble_eq_true rfl) ?_
  simp (etaStruct := .none) only [push_cast, Int.cast_ofNat_Int, Nat.reduceAdd, Nat.reduceSub, Nat.reduceMul, reduceCtorEq, reduceIte, Nat.reduceEqDiff, Nat.reduceLT, Nat.reduceLeDiff, Nat.reduceBEq, Int.reduceToNat, Int.reduceLE, Int.reduceLT]
  refine loopI (fun k : Nat => ⟨[(8, I .i64 k), (7, I .i64 l.length), (0, .c (.sl 1 (l.map i64P))), (1, .clo (.func F) a b)], [], 0⟩) (fun k => k ≤ l.length ∧ ∀ j (hj : j < l.length), j < k → p l[j] = false) (fun k => l.length - k) 0 ⟨Nat.zero_le _, fun j _ h => by omega⟩ (To.mk [] rfl rfl List.nodup_nil trivial ?_) ?_
  · simp (etaStruct := .none) only [push_cast, Int.cast_ofNat_Int, Nat.reduceAdd, Nat.reduceSub, Nat.reduceMul, reduceCtorEq, reduceIte, Nat.reduceEqDiff, Nat.reduceLT, Nat.reduceLeDiff, Nat.reduceBEq, Int.reduceToNat, Int.reduceLE, Int.reduceLT, ha, hb]
  · rintro k ⟨hk, hn⟩
    simp (etaStruct := .none) only [push_cast, Int.cast_ofNat_Int, Nat.reduceAdd, Nat.reduceSub, Nat.reduceMul, reduceCtorEq, reduceIte, Nat.reduceEqDiff, Nat.reduceLT, Nat.reduceLeDiff, Nat.reduceBEq, Int.reduceToNat, Int.reduceLE, Int.reduceLT]
    refine cond_i (fun h => ?_) (fun h => ?_)
    · have hlt : k < l.length := by simpa using h
      simp (etaStruct := .none) only [push_cast, Int.cast_ofNat_Int, Nat.reduceAdd, Nat.reduceSub, Nat.reduceMul, reduceCtorEq, reduceIte, Nat.reduceEqDiff, Nat.reduceLT, Nat.reduceLeDiff, Nat.reduceBEq, Int.reduceToNat, Int.reduceLE, Int.reduceLT, getD_map _ _ _ hlt, i64P]
      repeat (with_reducible refine And.intro ?_ ?_; · first | omega | decide | (simp; done) | (simp; omega) | (intro hh; refine ⟨hh, ?_⟩; omega) | (simp +contextual; done))
      refine callP (hp _ (List.getElem_mem hlt)) (by simp only [cvL_append, ha, hb, cvL, cv]; exact WkL.refl _) ?_
      simp (etaStruct := .none) only [push_cast, Int.cast_ofNat_Int, Nat.reduceAdd, Nat.reduceSub, Nat.reduceMul, reduceCtorEq, reduceIte, Nat.reduceEqDiff, Nat.reduceLT, Nat.reduceLeDiff, Nat.reduceBEq, Int.reduceToNat, Int.reduceLE, Int.reduceLT]
      refine cond_i (fun h => ?_) (fun h => ?_)
      · simp (etaStruct := .none) only [push_cast, Int.cast_ofNat_Int, Nat.reduceAdd, Nat.reduceSub, Nat.reduceMul, reduceCtorEq, reduceIte, Nat.reduceEqDiff, Nat.reduceLT, Nat.reduceLeDiff, Nat.reduceBEq, Int.reduceToNat, Int.reduceLE, Int.reduceLT]
        exact ret0 rfl trivial (Wk.of (by rw [ixOf_hit p l k hlt h hn]; rfl))
      · simp (etaStruct := .none) only [push_cast, Int.cast_ofNat_Int, Nat.reduceAdd, Nat.reduceSub, Nat.reduceMul, reduceCtorEq, reduceIte, Nat.reduceEqDiff, Nat.reduceLT, Nat.reduceLeDiff, Nat.reduceBEq, Int.reduceToNat, Int.reduceLE, Int.reduceLT]
        refine ⟨k + 1, ⟨by omega, fun j hj hjk => ?_⟩, by omega, To.mk [] rfl rfl List.nodup_nil trivial ?_⟩
        · by_cases e : j = k
          · subst e; exact h
          · exact hn j hj (by omega)
        · simp (etaStruct := .none) only [push_cast, Int.cast_ofNat_Int, Nat.reduceAdd, Nat.reduceSub, Nat.reduceMul, reduceCtorEq, reduceIte, Nat.reduceEqDiff, Nat.reduceLT, Nat.reduceLeDiff, Nat.reduceBEq, Int.reduceToNat, Int.reduceLE, Int.reduceLT, ha, hb]
          simp (disch := omega) only [wrap_in, wk_self, Int.tdiv_eq_ediv_of_nonneg, Int.tmod_eq_emod_of_nonneg]
    · have hge : k = l.length := by simp at h; omega
      subst hge
      simp (etaStruct := .none) only [push_cast, Int.cast_ofNat_Int, Nat.reduceAdd, Nat.reduceSub, Nat.reduceMul, reduceCtorEq, reduceIte, Nat.reduceEqDiff, Nat.reduceLT, Nat.reduceLeDiff, Nat.reduceBEq, Int.reduceToNat, Int.reduceLE, Int.reduceLT]
      exact ret0 rfl trivial (Wk.of (by rw [ixOf_miss p l (fun j hj => hn j hj hj)]; rfl))
theorem int_any (F : FuncId) (a b : List AV) (l : List Int) (p : Int → Bool) (hl : l.length ≤ 9223372036854775807) (hp : ∀ n ∈ l, Spec Try.prog F (a ++ [I .i64 n] ++ b) [] (B (p n)) []) (ha : ∀ h, cvL [] h a = a) (hb : ∀ h, cvL [] h b = b) :
    Spec Try.prog 155 [.c (.sl 1 (l.map i64P)), .clo (.func F) a b] [] (B (l.any p)) [] := by
  refine spec_am Try.func155 rfl rfl mix 9 rfl [.tmp 4] Try.results155 (Nat.le_of_ble_eq_true rfl) ?_
  simp (etaStruct := .none) only [push_cast, Int.cast_ofNat_Int, Nat.reduceAdd, Nat.reduceSub, Nat.reduceMul, reduceCtorEq, reduceIte, Nat.reduceEqDiff, Nat.reduceLT, Nat.reduceLeDiff, Nat.reduceBEq, Int.reduceToNat, Int.reduceLE, Int.reduceLT]
  refine callP (int_ix F a b l p hl hp ha hb) (by simp only [ha, hb, cvL, cv]; exact WkL.refl _) ?_
  simp (etaStruct := .none) only [push_cast, Int.cast_ofNat_Int, Nat.reduceAdd, Nat.reduceSub, Nat.reduceMul, reduceCtorEq, reduceIte, Nat.reduceEqDiff, Nat.reduceLT, Nat.reduceLeDiff, Nat.reduceBEq, Int.reduceToNat, Int.reduceLE, Int.reduceLT]
  exact ret0 rfl trivial (Wk.of (by rw [ixOf_any]; rfl))
end Go.Proofs.Ytjkdhjmegoblnaa
namespace Go.Proofs.Ytjkdhjmegoblnaa
set_option linter.all false
open Go.RowKit
set_option maxRecDepth 100000
def within (n a b : Int) : Bool := decide (a ≤ n) && decide (n ≤ b)
theorem within_iff {n a b : Int} : within n a b = true ↔ a ≤ n ∧ n ≤ b := by unfold within; simp
theorem within_f {n a b : Int} : within n a b = false ↔ ¬ (a ≤ n ∧ n ≤ b) := by unfold within; simp
theorem between_s (n a b : Int) : Spec Try.prog 18 [I .i64 n, I .i64 a, I .i64 b] [] (B (within n a b)) [] := by
  refine spec_am Try.func18 rfl rfl mix 15 rfl [.tmp 6] Try.results18 (Nat.le_of_ble_eq_true rfl) ?_
  (try simp (etaStruct := .none) only [push_cast, Int.cast_ofNat_Int, Nat.reduceAdd, Nat.reduceSub, Nat.reduceMul, reduceCtorEq, reduceIte, Nat.reduceEqDiff, Nat.reduceLT, Nat.reduceLeDiff, Nat.reduceBEq, Int.reduceToNat, Int.reduceLE, Int.reduceLT]); (try simp (disch := omega) only [wrap_in, wk_self, Int.tdiv_eq_ediv_of_nonneg, Int.tmod_eq_emod_of_nonneg]); (repeat (with_reducible refine And.intro ?_ ?_; · first | omega | decide | (simp; done) | (simp; omega) | (intro hh; refine ⟨hh, ?_⟩; omega) | (simp +contextual; done)))
  exact ret0 rfl trivial (Wk.of (congrArg B (by unfold within; first | rfl | simp)))
def fldBad (f : Fld) : Bool := !within f.w 1 40 || !within f.h 1 40
def fldForm (f : Fld) : Bool := !decide ((f.p.length : Int) = f.w * f.h) || f.p.any (fun p => decide (p < 0) || decide (4 ≤ p))
def fldE (f : Fld) : Int := if fldBad f then 1 else if fldForm f then 4 else 0
theorem fldE_ok {f : Fld} (h : fldE f = 0) : (1 ≤ f.w ∧ f.w ≤ 40) ∧ (1 ≤ f.h ∧ f.h ≤ 40) ∧ (f.p.length : Int) = f.w * f.h ∧ ∀ p ∈ f.p, 0 ≤ p ∧ p < 4 := by
  unfold fldE at h
  split at h
  · simp at h
  · rename_i h1
    split at h
    · simp at h
    · rename_i h2
      simp only [fldBad, Bool.or_eq_true, Bool.not_eq_true', not_or, Bool.not_eq_false, within_iff] at h1
      simp only [fldForm, Bool.or_eq_true, Bool.not_eq_true', decide_eq_false_iff_not, not_or, Decidable.not_not, List.any_eq_true, not_exists, not_and, decide_eq_true_eq] at h2
      exact ⟨h1.1, h1.2, h2.1, fun p hp => by have := h2.2 p hp; omega⟩
theorem side_s (n : Int) : Spec Try.prog 154 [I .i64 n] [] (B (within n 1 40)) [] := by
  refine spec_am Try.func154 rfl rfl mix 9 rfl [.tmp 2] Try.results154 (Nat.le_of_ble_eq_true rfl) ?_
  (try simp (etaStruct := .none) only [push_cast, Int.cast_ofNat_Int, Nat.reduceAdd, Nat.reduceSub, Nat.reduceMul, reduceCtorEq, reduceIte, Nat.reduceEqDiff, Nat.reduceLT, Nat.reduceLeDiff, Nat.reduceBEq, Int.reduceToNat, Int.reduceLE, Int.reduceLT]); (try simp (disch := omega) only [wrap_in, wk_self, Int.tdiv_eq_ediv_of_nonneg, Int.tmod_eq_emod_of_nonneg]); (repeat (with_reducible refine And.intro ?_ ?_; · first | omega | decide | (simp; done) | (simp; omega) | (intro hh; refine ⟨hh, ?_⟩; omega) | (simp +contextual; done)))
  exact ret0 rfl trivial (Wk.of (congrArg B (by unfold within; first | rfl | simp)))
theorem fclo_s (n : Int) : Spec Try.prog 156 ([] ++ [I .i64 n] ++ []) [] (B (decide (n < 0) || decide (4 ≤ n))) [] := by
  refine spec_am Try.func156 rfl rfl mix 9 rfl [.tmp 2] Try.results156 (Nat.le_of_ble_eq_true rfl) ?_
  (try simp (etaStruct := .none) only [push_cast, Int.cast_ofNat_Int, Nat.reduceAdd, Nat.reduceSub, Nat.reduceMul, reduceCtorEq, reduceIte, Nat.reduceEqDiff, Nat.reduceLT, Nat.reduceLeDiff, Nat.reduceBEq, Int.reduceToNat, Int.reduceLE, Int.reduceLT]); (try simp (disch := omega) only [wrap_in, wk_self, Int.tdiv_eq_ediv_of_nonneg, Int.tmod_eq_emod_of_nonneg]); (repeat (with_reducible refine And.intro ?_ ?_; · first | omega | decide | (simp; done) | (simp; omega) | (intro hh; refine ⟨hh, ?_⟩; omega) | (simp +contextual; done)))
  exact ret0 rfl trivial (Wk.refl _)
theorem fcheck_s (f : Fld) (hl : f.p.length ≤ 9223372036854775807) : Spec Try.prog 78 [fldA f] [] (I .i64 (fldE f)) [] := by
  refine spec_am Try.func78 rfl rfl mix 27 rfl [.tmp 2] Try.results78 (Nat.le_of_ble_eq_true rfl) ?_
  (try simp (etaStruct := .none) only [push_cast, Int.cast_ofNat_Int, Nat.reduceAdd, Nat.reduceSub, Nat.reduceMul, reduceCtorEq, reduceIte, Nat.reduceEqDiff, Nat.reduceLT, Nat.reduceLeDiff, Nat.reduceBEq, Int.reduceToNat, Int.reduceLE, Int.reduceLT]); (try simp (disch := omega) only [wrap_in, wk_self, Int.tdiv_eq_ediv_of_nonneg, Int.tmod_eq_emod_of_nonneg]); (repeat (with_reducible refine And.intro ?_ ?_; · first | omega | decide | (simp; done) | (simp; omega) | (intro hh; refine ⟨hh, ?_⟩; omega) | (simp +contextual; done)))
  refine callP (side_s f.w) (WkL.refl _) ?_
  (try simp (etaStruct := .none) only [push_cast, Int.cast_ofNat_Int, Nat.reduceAdd, Nat.reduceSub, Nat.reduceMul, reduceCtorEq, reduceIte, Nat.reduceEqDiff, Nat.reduceLT, Nat.reduceLeDiff, Nat.reduceBEq, Int.reduceToNat, Int.reduceLE, Int.reduceLT]); (try simp (disch := omega) only [wrap_in, wk_self, Int.tdiv_eq_ediv_of_nonneg, Int.tmod_eq_emod_of_nonneg]); (repeat (with_reducible refine And.intro ?_ ?_; · first | omega | decide | (simp; done) | (simp; omega) | (intro hh; refine ⟨hh, ?_⟩; omega) | (simp +contextual; done)))
  refine gcallP (fun hc => side_s f.h) (WkL.refl _) (by intro hc; (try simp (etaStruct := .none) only [push_cast, Int.cast_ofNat_Int, Nat.reduceAdd, Nat.reduceSub, Nat.reduceMul, reduceCtorEq, reduceIte, Nat.reduceEqDiff, Nat.reduceLT, Nat.reduceLeDiff, Nat.reduceBEq, Int.reduceToNat, Int.reduceLE, Int.reduceLT]); (try simp_all)) ?_
  (try simp (etaStruct := .none) only [push_cast, Int.cast_ofNat_Int, Nat.reduceAdd, Nat.reduceSub, Nat.reduceMul, reduceCtorEq, reduceIte, Nat.reduceEqDiff, Nat.reduceLT, Nat.reduceLeDiff, Nat.reduceBEq, Int.reduceToNat, Int.reduceLE, Int.reduceLT]); (try simp (disch := omega) only [wrap_in, wk_self, Int.tdiv_eq_ediv_of_nonneg, Int.tmod_eq_emod_of_nonneg]); (repeat (with_reducible refine And.intro ?_ ?_; · first | omega | decide | (simp; done) | (simp; omega) | (intro hh; refine ⟨hh, ?_⟩; omega) | (simp +contextual; done)))
  refine cond_i (fun h1 => ?_) (fun h1 => ?_)
  · (try simp (etaStruct := .none) only [push_cast, Int.cast_ofNat_Int, Nat.reduceAdd, Nat.reduceSub, Nat.reduceMul, reduceCtorEq, reduceIte, Nat.reduceEqDiff, Nat.reduceLT, Nat.reduceLeDiff, Nat.reduceBEq, Int.reduceToNat, Int.reduceLE, Int.reduceLT]); (try simp (disch := omega) only [wrap_in, wk_self, Int.tdiv_eq_ediv_of_nonneg, Int.tmod_eq_emod_of_nonneg]); (repeat (with_reducible refine And.intro ?_ ?_; · first | omega | decide | (simp; done) | (simp; omega) | (intro hh; refine ⟨hh, ?_⟩; omega) | (simp +contextual; done)))
    (first | (refine ret0 rfl (by repeat' (first | exact trivial | exact rfl | refine ⟨?_, ?_⟩)) (Wk.of ?_); (try simp (etaStruct := .none) only [push_cast, Int.cast_ofNat_Int, Nat.reduceAdd, Nat.reduceSub, Nat.reduceMul, reduceCtorEq, reduceIte, Nat.reduceEqDiff, Nat.reduceLT, Nat.reduceLeDiff, Nat.reduceBEq, Int.reduceToNat, Int.reduceLE, Int.reduceLT]); first | done | (simp [fldE, fldBad, fldForm, *]; done) | (simp_all [fldE, fldBad, fldForm]; done)) | (refine ret0 rfl (by repeat' (first | exact trivial | exact rfl | refine ⟨?_, ?_⟩)) ?_; (try simp (etaStruct := .none) only [push_cast, Int.cast_ofNat_Int, Nat.reduceAdd, Nat.reduceSub, Nat.reduceMul, reduceCtorEq, reduceIte, Nat.reduceEqDiff, Nat.reduceLT, Nat.reduceLeDiff, Nat.reduceBEq, Int.reduceToNat, Int.reduceLE, Int.reduceLT]); (try simp [fldE, fldBad, fldForm, *]); (try (first | exact Wk.refl _ | exact Wk.nil _ | (refine Wk.tup ?_; repeat' (first | exact trivial | exact Wk.refl _ | exact Wk.nil _ | refine ⟨?_, ?_⟩ | (refine Wk.agg ?_)))))))
  · have hw : within f.w 1 40 = true ∧ within f.h 1 40 = true := by simpa using h1
    obtain ⟨h3, h4⟩ := hw
    rw [within_iff] at h3 h4
    have hm1 : 0 ≤ f.w * f.h := Int.mul_nonneg (by omega) (by omega)
    have hm2 : f.w * f.h ≤ 40 * 40 := Int.mul_le_mul h3.2 h4.2 (by omega) (by omega)
    (try simp (etaStruct := .none) only [push_cast, Int.cast_ofNat_Int, Nat.reduceAdd, Nat.reduceSub, Nat.reduceMul, reduceCtorEq, reduceIte, Nat.reduceEqDiff, Nat.reduceLT, Nat.reduceLeDiff, Nat.reduceBEq, Int.reduceToNat, Int.reduceLE, Int.reduceLT]); (try simp (disch := omega) only [wrap_in, wk_self, Int.tdiv_eq_ediv_of_nonneg, Int.tmod_eq_emod_of_nonneg]); (repeat (with_reducible refine And.intro ?_ ?_; · first | omega | decide | (simp; done) | (simp; omega) | (intro hh; refine ⟨hh, ?_⟩; omega) | (simp +contextual; done)))
    refine gcallP (fun hc => int_any _ [] [] f.p (fun p => decide (p < 0) || decide (4 ≤ p)) hl (fun n _ => fclo_s n) (fun _ => rfl) (fun _ => rfl)) (WkL.refl _) (by intro hc; (try simp (etaStruct := .none) only [push_cast, Int.cast_ofNat_Int, Nat.reduceAdd, Nat.reduceSub, Nat.reduceMul, reduceCtorEq, reduceIte, Nat.reduceEqDiff, Nat.reduceLT, Nat.reduceLeDiff, Nat.reduceBEq, Int.reduceToNat, Int.reduceLE, Int.reduceLT]); (try simp_all)) ?_
    (try simp (etaStruct := .none) only [push_cast, Int.cast_ofNat_Int, Nat.reduceAdd, Nat.reduceSub, Nat.reduceMul, reduceCtorEq, reduceIte, Nat.reduceEqDiff, Nat.reduceLT, Nat.reduceLeDiff, Nat.reduceBEq, Int.reduceToNat, Int.reduceLE, Int.reduceLT]); (try simp (disch := omega) only [wrap_in, wk_self, Int.tdiv_eq_ediv_of_nonneg, Int.tmod_eq_emod_of_nonneg]); (repeat (with_reducible refine And.intro ?_ ?_; · first | omega | decide | (simp; done) | (simp; omega) | (intro hh; refine ⟨hh, ?_⟩; omega) | (simp +contextual; done)))
    refine cond_i (fun h2 => ?_) (fun h2 => ?_)
    · (try simp (etaStruct := .none) only [push_cast, Int.cast_ofNat_Int, Nat.reduceAdd, Nat.reduceSub, Nat.reduceMul, reduceCtorEq, reduceIte, Nat.reduceEqDiff, Nat.reduceLT, Nat.reduceLeDiff, Nat.reduceBEq, Int.reduceToNat, Int.reduceLE, Int.reduceLT]); (try simp (disch := omega) only [wrap_in, wk_self, Int.tdiv_eq_ediv_of_nonneg, Int.tmod_eq_emod_of_nonneg]); (repeat (with_reducible refine And.intro ?_ ?_; · first | omega | decide | (simp; done) | (simp; omega) | (intro hh; refine ⟨hh, ?_⟩; omega) | (simp +contextual; done)))
      (first | (refine ret0 rfl (by repeat' (first | exact trivial | exact rfl | refine ⟨?_, ?_⟩)) (Wk.of ?_); (try simp (etaStruct := .none) only [push_cast, Int.cast_ofNat_Int, Nat.reduceAdd, Nat.reduceSub, Nat.reduceMul, reduceCtorEq, reduceIte, Nat.reduceEqDiff, Nat.reduceLT, Nat.reduceLeDiff, Nat.reduceBEq, Int.reduceToNat, Int.reduceLE, Int.reduceLT]); first | done | (simp [fldE, fldBad, fldForm, *]; done) | (simp_all [fldE, fldBad, fldForm]; done)) | (refine ret0 rfl (by repeat' (first | exact trivial | exact rfl | refine ⟨?_, ?_⟩)) ?_; (try simp (etaStruct := .none) only [push_cast, Int.cast_ofNat_Int, Nat.reduceAdd, Nat.reduceSub, Nat.reduceMul, reduceCtorEq, reduceIte, Nat.reduceEqDiff, Nat.reduceLT, Nat.reduceLeDiff, Nat.reduceBEq, Int.reduceToNat, Int.reduceLE, Int.reduceLT]); (try simp [fldE, fldBad, fldForm, *]); (try (first | exact Wk.refl _ | exact Wk.nil _ | (refine Wk.tup ?_; repeat' (first | exact trivial | exact Wk.refl _ | exact Wk.nil _ | refine ⟨?_, ?_⟩ | (refine Wk.agg ?_)))))))
    · (try simp (etaStruct := .none) only [push_cast, Int.cast_ofNat_Int, Nat.reduceAdd, Nat.reduceSub, Nat.reduceMul, reduceCtorEq, reduceIte, Nat.reduceEqDiff, Nat.reduceLT, Nat.reduceLeDiff, Nat.reduceBEq, Int.reduceToNat, Int.reduceLE, Int.reduceLT]); (try simp (disch := omega) only [wrap_in, wk_self, Int.tdiv_eq_ediv_of_nonneg, Int.tmod_eq_emod_of_nonneg]); (repeat (with_reducible refine And.intro ?_ ?_; · first | omega | decide | (simp; done) | (simp; omega) | (intro hh; refine ⟨hh, ?_⟩; omega) | (simp +contextual; done)))
      (first | (refine ret0 rfl (by repeat' (first | exact trivial | exact rfl | refine ⟨?_, ?_⟩)) (Wk.of ?_); (try simp (etaStruct := .none) only [push_cast, Int.cast_ofNat_Int, Nat.reduceAdd, Nat.reduceSub, Nat.reduceMul, reduceCtorEq, reduceIte, Nat.reduceEqDiff, Nat.reduceLT, Nat.reduceLeDiff, Nat.reduceBEq, Int.reduceToNat, Int.reduceLE, Int.reduceLT]); first | done | (simp [fldE, fldBad, fldForm, *]; done) | (simp_all [fldE, fldBad, fldForm]; done)) | (refine ret0 rfl (by repeat' (first | exact trivial | exact rfl | refine ⟨?_, ?_⟩)) ?_; (try simp (etaStruct := .none) only [push_cast, Int.cast_ofNat_Int, Nat.reduceAdd, Nat.reduceSub, Nat.reduceMul, reduceCtorEq, reduceIte, Nat.reduceEqDiff, Nat.reduceLT, Nat.reduceLeDiff, Nat.reduceBEq, Int.reduceToNat, Int.reduceLE, Int.reduceLT]); (try simp [fldE, fldBad, fldForm, *]); (try (first | exact Wk.refl _ | exact Wk.nil _ | (refine Wk.tup ?_; repeat' (first | exact trivial | exact Wk.refl _ | exact Wk.nil _ | refine ⟨?_, ?_⟩ | (refine Wk.agg ?_)))))))
def inF (f : Fld) (c : Cel) : Bool := within c.x 0 (f.w - 1) && within c.y 0 (f.h - 1)
theorem inF_iff {f : Fld} {c : Cel} : inF f c = true ↔ (0 ≤ c.x ∧ c.x < f.w) ∧ (0 ≤ c.y ∧ c.y < f.h) := by
  unfold inF; rw [Bool.and_eq_true, within_iff, within_iff]; omega
theorem inF_f {f : Fld} {c : Cel} : inF f c = false ↔ ¬ ((0 ≤ c.x ∧ c.x < f.w) ∧ (0 ≤ c.y ∧ c.y < f.h)) := by
  rw [← inF_iff, Bool.not_eq_true]
def placeV (f : Fld) (c : Cel) : Int := f.p.getD (c.y * f.w + c.x).toNat default
theorem place_ix {f : Fld} {c : Cel} (h : fldE f = 0) (hc : inF f c = true) : 0 ≤ c.y * f.w ∧ c.y * f.w ≤ 1600 ∧ 0 ≤ c.y * f.w + c.x ∧ c.y * f.w + c.x < f.p.length ∧ f.p.length ≤ 1600 := by
  obtain ⟨h1, h2, h3, _⟩ := fldE_ok h
  obtain ⟨h4, h5⟩ := inF_iff.1 hc
  have a1 : 0 ≤ c.y * f.w := Int.mul_nonneg (by omega) (by omega)
  have a2 : c.y * f.w ≤ (f.h - 1) * f.w := Int.mul_le_mul_of_nonneg_right (by omega) (by omega)
  have a3 : (f.h - 1) * f.w = f.w * f.h - f.w := by rw [Int.sub_mul, Int.mul_comm f.h, Int.one_mul]
  have a4 : f.w * f.h ≤ 40 * 40 := Int.mul_le_mul h1.2 h2.2 (by omega) (by omega)
  omega
def atV (f : Fld) (c : Cel) : Int × Int := if fldE f ≠ 0 then (0, fldE f) else if inF f c then (placeV f c, 0) else (0, 7)
theorem at_s (f : Fld) (c : Cel) (hl : f.p.length ≤ 9223372036854775807) : Spec Try.prog 79 [fldA f, celA c] [] (.tup [I .i64 (atV f c).1, I .i64 (atV f c).2]) [] := by
  refine spec_am Try.func79 rfl rfl mix 46 rfl [.tmp 4, .tmp 5] Try.results79 (Nat.le_of_ble_eq_true rfl) ?_
  (try simp (etaStruct := .none) only [push_cast, Int.cast_ofNat_Int, Nat.reduceAdd, Nat.reduceSub, Nat.reduceMul, reduceCtorEq, reduceIte, Nat.reduceEqDiff, Nat.reduceLT, Nat.reduceLeDiff, Nat.reduceBEq, Int.reduceToNat, Int.reduceLE, Int.reduceLT]); (try simp (disch := omega) only [wrap_in, wk_self, Int.tdiv_eq_ediv_of_nonneg, Int.tmod_eq_emod_of_nonneg]); (repeat (with_reducible refine And.intro ?_ ?_; · first | omega | decide | (simp; done) | (simp; omega) | (intro hh; refine ⟨hh, ?_⟩; omega) | (simp +contextual; done)))
  refine callP (fcheck_s f hl) (WkL.refl _) ?_
  (try simp (etaStruct := .none) only [push_cast, Int.cast_ofNat_Int, Nat.reduceAdd, Nat.reduceSub, Nat.reduceMul, reduceCtorEq, reduceIte, Nat.reduceEqDiff, Nat.reduceLT, Nat.reduceLeDiff, Nat.reduceBEq, Int.reduceToNat, Int.reduceLE, Int.reduceLT]); (try simp (disch := omega) only [wrap_in, wk_self, Int.tdiv_eq_ediv_of_nonneg, Int.tmod_eq_emod_of_nonneg]); (repeat (with_reducible refine And.intro ?_ ?_; · first | omega | decide | (simp; done) | (simp; omega) | (intro hh; refine ⟨hh, ?_⟩; omega) | (simp +contextual; done)))
  refine cond_i (fun h1 => ?_) (fun h1 => ?_)
  · (try simp only [decide_eq_true_eq, decide_eq_false_iff_not, Bool.not_eq_true', Bool.not_eq_false', Bool.or_eq_true, Bool.and_eq_true, Bool.or_eq_false_iff, Bool.and_eq_false_iff, Int.not_lt, Int.not_le, Bool.not_true, Bool.not_false, not_and, not_or] at h1)
    (try simp (etaStruct := .none) only [push_cast, Int.cast_ofNat_Int, Nat.reduceAdd, Nat.reduceSub, Nat.reduceMul, reduceCtorEq, reduceIte, Nat.reduceEqDiff, Nat.reduceLT, Nat.reduceLeDiff, Nat.reduceBEq, Int.reduceToNat, Int.reduceLE, Int.reduceLT]); (try simp (disch := omega) only [wrap_in, wk_self, Int.tdiv_eq_ediv_of_nonneg, Int.tmod_eq_emod_of_nonneg]); (repeat (with_reducible refine And.intro ?_ ?_; · first | omega | decide | (simp; done) | (simp; omega) | (intro hh; refine ⟨hh, ?_⟩; omega) | (simp +contextual; done)))
    (first | (refine ret0 rfl (by repeat' (first | exact trivial | exact rfl | refine ⟨?_, ?_⟩)) (Wk.of ?_); (try simp (etaStruct := .none) only [push_cast, Int.cast_ofNat_Int, Nat.reduceAdd, Nat.reduceSub, Nat.reduceMul, reduceCtorEq, reduceIte, Nat.reduceEqDiff, Nat.reduceLT, Nat.reduceLeDiff, Nat.reduceBEq, Int.reduceToNat, Int.reduceLE, Int.reduceLT]); first | done | (simp [atV, placeV, *]; done) | (simp_all [atV, placeV]; done)) | (refine ret0 rfl (by repeat' (first | exact trivial | exact rfl | refine ⟨?_, ?_⟩)) ?_; (try simp (etaStruct := .none) only [push_cast, Int.cast_ofNat_Int, Nat.reduceAdd, Nat.reduceSub, Nat.reduceMul, reduceCtorEq, reduceIte, Nat.reduceEqDiff, Nat.reduceLT, Nat.reduceLeDiff, Nat.reduceBEq, Int.reduceToNat, Int.reduceLE, Int.reduceLT]); (try simp [atV, placeV, *]); (try (first | exact Wk.refl _ | exact Wk.nil _ | (refine Wk.tup ?_; repeat' (first | exact trivial | exact Wk.refl _ | exact Wk.nil _ | refine ⟨?_, ?_⟩ | (refine Wk.agg ?_)))))))
  · (try simp only [decide_eq_true_eq, decide_eq_false_iff_not, Bool.not_eq_true', Bool.not_eq_false', Bool.or_eq_true, Bool.and_eq_true, Bool.or_eq_false_iff, Bool.and_eq_false_iff, Int.not_lt, Int.not_le, Bool.not_true, Bool.not_false, not_and, not_or] at h1)
    obtain ⟨e1, e2, e3, e4⟩ := fldE_ok h1
    (try simp (etaStruct := .none) only [push_cast, Int.cast_ofNat_Int, Nat.reduceAdd, Nat.reduceSub, Nat.reduceMul, reduceCtorEq, reduceIte, Nat.reduceEqDiff, Nat.reduceLT, Nat.reduceLeDiff, Nat.reduceBEq, Int.reduceToNat, Int.reduceLE, Int.reduceLT]); (try simp (disch := omega) only [wrap_in, wk_self, Int.tdiv_eq_ediv_of_nonneg, Int.tmod_eq_emod_of_nonneg]); (repeat (with_reducible refine And.intro ?_ ?_; · first | omega | decide | (simp; done) | (simp; omega) | (intro hh; refine ⟨hh, ?_⟩; omega) | (simp +contextual; done)))
    refine cond_i (fun h2 => ?_) (fun h2 => ?_)
    · (try simp only [decide_eq_true_eq, decide_eq_false_iff_not, Bool.not_eq_true', Bool.not_eq_false', Bool.or_eq_true, Bool.and_eq_true, Bool.or_eq_false_iff, Bool.and_eq_false_iff, Int.not_lt, Int.not_le, Bool.not_true, Bool.not_false, not_and, not_or] at h2)
      have hc : inF f c = false := inF_f.2 (by omega)
      (try simp (etaStruct := .none) only [push_cast, Int.cast_ofNat_Int, Nat.reduceAdd, Nat.reduceSub, Nat.reduceMul, reduceCtorEq, reduceIte, Nat.reduceEqDiff, Nat.reduceLT, Nat.reduceLeDiff, Nat.reduceBEq, Int.reduceToNat, Int.reduceLE, Int.reduceLT]); (try simp (disch := omega) only [wrap_in, wk_self, Int.tdiv_eq_ediv_of_nonneg, Int.tmod_eq_emod_of_nonneg]); (repeat (with_reducible refine And.intro ?_ ?_; · first | omega | decide | (simp; done) | (simp; omega) | (intro hh; refine ⟨hh, ?_⟩; omega) | (simp +contextual; done)))
      (first | (refine ret0 rfl (by repeat' (first | exact trivial | exact rfl | refine ⟨?_, ?_⟩)) (Wk.of ?_); (try simp (etaStruct := .none) only [push_cast, Int.cast_ofNat_Int, Nat.reduceAdd, Nat.reduceSub, Nat.reduceMul, reduceCtorEq, reduceIte, Nat.reduceEqDiff, Nat.reduceLT, Nat.reduceLeDiff, Nat.reduceBEq, Int.reduceToNat, Int.reduceLE, Int.reduceLT]); first | done | (simp [atV, placeV, *]; done) | (simp_all [atV, placeV]; done)) | (refine ret0 rfl (by repeat' (first | exact trivial | exact rfl | refine ⟨?_, ?_⟩)) ?_; (try simp (etaStruct := .none) only [push_cast, Int.cast_ofNat_Int, Nat.reduceAdd, Nat.reduceSub, Nat.reduceMul, reduceCtorEq, reduceIte, Nat.reduceEqDiff, Nat.reduceLT, Nat.reduceLeDiff, Nat.reduceBEq, Int.reduceToNat, Int.reduceLE, Int.reduceLT]); (try simp [atV, placeV, *]); (try (first | exact Wk.refl _ | exact Wk.nil _ | (refine Wk.tup ?_; repeat' (first | exact trivial | exact Wk.refl _ | exact Wk.nil _ | refine ⟨?_, ?_⟩ | (refine Wk.agg ?_)))))))
    · (try simp only [decide_eq_true_eq, decide_eq_false_iff_not, Bool.not_eq_true', Bool.not_eq_false', Bool.or_eq_true, Bool.and_eq_true, Bool.or_eq_false_iff, Bool.and_eq_false_iff, Int.not_lt, Int.not_le, Bool.not_true, Bool.not_false, not_and, not_or] at h2)
      have hc : inF f c = true := inF_iff.2 (by omega)
      obtain ⟨i1, i2, i3, i4, i5⟩ := place_ix h1 hc
      (try simp (etaStruct := .none) only [push_cast, Int.cast_ofNat_Int, Nat.reduceAdd, Nat.reduceSub, Nat.reduceMul, reduceCtorEq, reduceIte, Nat.reduceEqDiff, Nat.reduceLT, Nat.reduceLeDiff, Nat.reduceBEq, Int.reduceToNat, Int.reduceLE, Int.reduceLT, getD_in _ _ _ (show (c.y * f.w + c.x).toNat < f.p.length by omega), i64P]); (try simp (disch := omega) only [wrap_in, wk_self, Int.tdiv_eq_ediv_of_nonneg, Int.tmod_eq_emod_of_nonneg]); (repeat (with_reducible refine And.intro ?_ ?_; · first | omega | decide | (simp; done) | (simp; omega) | (intro hh; refine ⟨hh, ?_⟩; omega) | (simp +contextual; done))); (try simp (etaStruct := .none) only [push_cast, Int.cast_ofNat_Int, Nat.reduceAdd, Nat.reduceSub, Nat.reduceMul, reduceCtorEq, reduceIte, Nat.reduceEqDiff, Nat.reduceLT, Nat.reduceLeDiff, Nat.reduceBEq, Int.reduceToNat, Int.reduceLE, Int.reduceLT, getD_in _ _ _ (show (c.y * f.w + c.x).toNat < f.p.length by omega), i64P]); (try simp (disch := omega) only [wrap_in, wk_self, Int.tdiv_eq_ediv_of_nonneg, Int.tmod_eq_emod_of_nonneg]); (repeat (with_reducible refine And.intro ?_ ?_; · first | omega | decide | (simp; done) | (simp; omega) | (intro hh; refine ⟨hh, ?_⟩; omega) | (simp +contextual; done)))
      (first | (refine ret0 rfl (by repeat' (first | exact trivial | exact rfl | refine ⟨?_, ?_⟩)) (Wk.of ?_); (try simp (etaStruct := .none) only [push_cast, Int.cast_ofNat_Int, Nat.reduceAdd, Nat.reduceSub, Nat.reduceMul, reduceCtorEq, reduceIte, Nat.reduceEqDiff, Nat.reduceLT, Nat.reduceLeDiff, Nat.reduceBEq, Int.reduceToNat, Int.reduceLE, Int.reduceLT]); first | done | (simp [atV, placeV, *]; done) | (simp_all [atV, placeV]; done)) | (refine ret0 rfl (by repeat' (first | exact trivial | exact rfl | refine ⟨?_, ?_⟩)) ?_; (try simp (etaStruct := .none) only [push_cast, Int.cast_ofNat_Int, Nat.reduceAdd, Nat.reduceSub, Nat.reduceMul, reduceCtorEq, reduceIte, Nat.reduceEqDiff, Nat.reduceLT, Nat.reduceLeDiff, Nat.reduceBEq, Int.reduceToNat, Int.reduceLE, Int.reduceLT]); (try simp [atV, placeV, *]); (try (first | exact Wk.refl _ | exact Wk.nil _ | (refine Wk.tup ?_; repeat' (first | exact trivial | exact Wk.refl _ | exact Wk.nil _ | refine ⟨?_, ?_⟩ | (refine Wk.agg ?_)))))))
theorem fldE_form {f : Fld} (h1 : fldBad f = false) {i : Nat} (hi : i < f.p.length) (h : within (f.p.getD i default) 0 3 = false) : fldE f = 4 := by
  have : fldForm f = true := by
    unfold fldForm
    rw [Bool.or_eq_true]
    refine .inr (List.any_eq_true.2 ⟨_, List.getElem_mem hi, ?_⟩)
    rw [getD_at _ _ hi, within_f] at h
    simp; omega
  unfold fldE; rw [h1, this]; rfl
theorem fldE_fine {f : Fld} (h1 : fldBad f = false) (h2 : (f.p.length : Int) = f.w * f.h) (h : ∀ j, j < f.p.length → within (f.p.getD j default) 0 3 = true) : fldE f = 0 := by
  have : fldForm f = false := by
    unfold fldForm
    rw [Bool.or_eq_false_iff, List.any_eq_false]
    refine ⟨by simp [h2], fun p hp => ?_⟩
    obtain ⟨i, hi, rfl⟩ := List.getElem_of_mem hp
    have := h i hi
    rw [getD_at _ _ hi, within_iff] at this
    simp; omega
  unfold fldE; rw [h1, this]; rfl
theorem fright_s (f : Fld) (hl : f.p.length ≤ 9223372036854775807) : Spec Try.prog 84 [fldA f] [] (I .i64 (fldE f)) [] := by
  refine spec_am Try.func84 rfl rfl mix 35 rfl [.tmp 2] Try.results84 (Nat.le_of_ble_eq_true rfl) ?_
  (try simp (etaStruct := .none) only [push_cast, Int.cast_ofNat_Int, Nat.reduceAdd, Nat.reduceSub, Nat.reduceMul, reduceCtorEq, reduceIte, Nat.reduceEqDiff, Nat.reduceLT, Nat.reduceLeDiff, Nat.reduceBEq, Int.reduceToNat, Int.reduceLE, Int.reduceLT]); (try simp (disch := omega) only [wrap_in, wk_self, Int.tdiv_eq_ediv_of_nonneg, Int.tmod_eq_emod_of_nonneg]); (repeat (with_reducible refine And.intro ?_ ?_; · first | omega | decide | (simp; done) | (simp; omega) | (intro hh; refine ⟨hh, ?_⟩; omega) | (simp +contextual; done)))
  refine callP (between_s f.w 1 40) (WkL.refl _) ?_
  (try simp (etaStruct := .none) only [push_cast, Int.cast_ofNat_Int, Nat.reduceAdd, Nat.reduceSub, Nat.reduceMul, reduceCtorEq, reduceIte, Nat.reduceEqDiff, Nat.reduceLT, Nat.reduceLeDiff, Nat.reduceBEq, Int.reduceToNat, Int.reduceLE, Int.reduceLT]); (try simp (disch := omega) only [wrap_in, wk_self, Int.tdiv_eq_ediv_of_nonneg, Int.tmod_eq_emod_of_nonneg]); (repeat (with_reducible refine And.intro ?_ ?_; · first | omega | decide | (simp; done) | (simp; omega) | (intro hh; refine ⟨hh, ?_⟩; omega) | (simp +contextual; done)))
  refine gcallP (fun hcc => between_s f.h 1 40) (WkL.refl _) (by intro hc; (try simp (etaStruct := .none) only [push_cast, Int.cast_ofNat_Int, Nat.reduceAdd, Nat.reduceSub, Nat.reduceMul, reduceCtorEq, reduceIte, Nat.reduceEqDiff, Nat.reduceLT, Nat.reduceLeDiff, Nat.reduceBEq, Int.reduceToNat, Int.reduceLE, Int.reduceLT]); (try simp_all)) ?_
  (try simp (etaStruct := .none) only [push_cast, Int.cast_ofNat_Int, Nat.reduceAdd, Nat.reduceSub, Nat.reduceMul, reduceCtorEq, reduceIte, Nat.reduceEqDiff, Nat.reduceLT, Nat.reduceLeDiff, Nat.reduceBEq, Int.reduceToNat, Int.reduceLE, Int.reduceLT]); (try simp (disch := omega) only [wrap_in, wk_self, Int.tdiv_eq_ediv_of_nonneg, Int.tmod_eq_emod_of_nonneg]); (repeat (with_reducible refine And.intro ?_ ?_; · first | omega | decide | (simp; done) | (simp; omega) | (intro hh; refine ⟨hh, ?_⟩; omega) | (simp +contextual; done)))
  refine cond_i (fun h1 => ?_) (fun h1 => ?_)
  · (try simp only [decide_eq_true_eq, decide_eq_false_iff_not, Bool.not_eq_true', Bool.not_eq_false', Bool.or_eq_true, Bool.and_eq_true, Bool.or_eq_false_iff, Bool.and_eq_false_iff, Int.not_lt, Int.not_le, Bool.not_true, Bool.not_false, not_and, not_or] at h1)
    have hb : fldBad f = true := by unfold fldBad; simpa using h1
    (try simp (etaStruct := .none) only [push_cast, Int.cast_ofNat_Int, Nat.reduceAdd, Nat.reduceSub, Nat.reduceMul, reduceCtorEq, reduceIte, Nat.reduceEqDiff, Nat.reduceLT, Nat.reduceLeDiff, Nat.reduceBEq, Int.reduceToNat, Int.reduceLE, Int.reduceLT]); (try simp (disch := omega) only [wrap_in, wk_self, Int.tdiv_eq_ediv_of_nonneg, Int.tmod_eq_emod_of_nonneg]); (repeat (with_reducible refine And.intro ?_ ?_; · first | omega | decide | (simp; done) | (simp; omega) | (intro hh; refine ⟨hh, ?_⟩; omega) | (simp +contextual; done)))
    (first | (refine ret0 rfl (by repeat' (first | exact trivial | exact rfl | refine ⟨?_, ?_⟩)) (Wk.of ?_); (try simp (etaStruct := .none) only [push_cast, Int.cast_ofNat_Int, Nat.reduceAdd, Nat.reduceSub, Nat.reduceMul, reduceCtorEq, reduceIte, Nat.reduceEqDiff, Nat.reduceLT, Nat.reduceLeDiff, Nat.reduceBEq, Int.reduceToNat, Int.reduceLE, Int.reduceLT]); first | done | (simp [fldE, fldForm, *]; done) | (simp_all [fldE, fldForm]; done)) | (refine ret0 rfl (by repeat' (first | exact trivial | exact rfl | refine ⟨?_, ?_⟩)) ?_; (try simp (etaStruct := .none) only [push_cast, Int.cast_ofNat_Int, Nat.reduceAdd, Nat.reduceSub, Nat.reduceMul, reduceCtorEq, reduceIte, Nat.reduceEqDiff, Nat.reduceLT, Nat.reduceLeDiff, Nat.reduceBEq, Int.reduceToNat, Int.reduceLE, Int.reduceLT]); (try simp [fldE, fldForm, *]); (try (first | exact Wk.refl _ | exact Wk.nil _ | (refine Wk.tup ?_; repeat' (first | exact trivial | exact Wk.refl _ | exact Wk.nil _ | refine ⟨?_, ?_⟩ | (refine Wk.agg ?_)))))))
  · (try simp only [decide_eq_true_eq, decide_eq_false_iff_not, Bool.not_eq_true', Bool.not_eq_false', Bool.or_eq_true, Bool.and_eq_true, Bool.or_eq_false_iff, Bool.and_eq_false_iff, Int.not_lt, Int.not_le, Bool.not_true, Bool.not_false, not_and, not_or] at h1)
    have hb : fldBad f = false := by unfold fldBad; simpa using h1
    have hw : within f.w 1 40 = true ∧ within f.h 1 40 = true := by simpa using h1
    obtain ⟨h3, h4⟩ := hw
    rw [within_iff] at h3 h4
    have hm1 : 0 ≤ f.w * f.h := Int.mul_nonneg (by omega) (by omega)
    have hm2 : f.w * f.h ≤ 40 * 40 := Int.mul_le_mul h3.2 h4.2 (by omega) (by omega)
    (try simp (etaStruct := .none) only [push_cast, Int.cast_ofNat_Int, Nat.reduceAdd, Nat.reduceSub, Nat.reduceMul, reduceCtorEq, reduceIte, Nat.reduceEqDiff, Nat.reduceLT, Nat.reduceLeDiff, Nat.reduceBEq, Int.reduceToNat, Int.reduceLE, Int.reduceLT]); (try simp (disch := omega) only [wrap_in, wk_self, Int.tdiv_eq_ediv_of_nonneg, Int.tmod_eq_emod_of_nonneg]); (repeat (with_reducible refine And.intro ?_ ?_; · first | omega | decide | (simp; done) | (simp; omega) | (intro hh; refine ⟨hh, ?_⟩; omega) | (simp +contextual; done)))
    refine cond_i (fun h2 => ?_) (fun h2 => ?_)
    · (try simp only [decide_eq_true_eq, decide_eq_false_iff_not, Bool.not_eq_true', Bool.not_eq_false', Bool.or_eq_true, Bool.and_eq_true, Bool.or_eq_false_iff, Bool.and_eq_false_iff, Int.not_lt, Int.not_le, Bool.not_true, Bool.not_false, not_and, not_or] at h2)
      (try simp (etaStruct := .none) only [push_cast, Int.cast_ofNat_Int, Nat.reduceAdd, Nat.reduceSub, Nat.reduceMul, reduceCtorEq, reduceIte, Nat.reduceEqDiff, Nat.reduceLT, Nat.reduceLeDiff, Nat.reduceBEq, Int.reduceToNat, Int.reduceLE, Int.reduceLT]); (try simp (disch := omega) only [wrap_in, wk_self, Int.tdiv_eq_ediv_of_nonneg, Int.tmod_eq_emod_of_nonneg]); (repeat (with_reducible refine And.intro ?_ ?_; · first | omega | decide | (simp; done) | (simp; omega) | (intro hh; refine ⟨hh, ?_⟩; omega) | (simp +contextual; done)))
      (first | (refine ret0 rfl (by repeat' (first | exact trivial | exact rfl | refine ⟨?_, ?_⟩)) (Wk.of ?_); (try simp (etaStruct := .none) only [push_cast, Int.cast_ofNat_Int, Nat.reduceAdd, Nat.reduceSub, Nat.reduceMul, reduceCtorEq, reduceIte, Nat.reduceEqDiff, Nat.reduceLT, Nat.reduceLeDiff, Nat.reduceBEq, Int.reduceToNat, Int.reduceLE, Int.reduceLT]); first | done | (simp [fldE, fldForm, *]; done) | (simp_all [fldE, fldForm]; done)) | (refine ret0 rfl (by repeat' (first | exact trivial | exact rfl | refine ⟨?_, ?_⟩)) ?_; (try simp (etaStruct := .none) only [push_cast, Int.cast_ofNat_Int, Nat.reduceAdd, Nat.reduceSub, Nat.reduceMul, reduceCtorEq, reduceIte, Nat.reduceEqDiff, Nat.reduceLT, Nat.reduceLeDiff, Nat.reduceBEq, Int.reduceToNat, Int.reduceLE, Int.reduceLT]); (try simp [fldE, fldForm, *]); (try (first | exact Wk.refl _ | exact Wk.nil _ | (refine Wk.tup ?_; repeat' (first | exact trivial | exact Wk.refl _ | exact Wk.nil _ | refine ⟨?_, ?_⟩ | (refine Wk.agg ?_)))))))
    · (try simp only [decide_eq_true_eq, decide_eq_false_iff_not, Bool.not_eq_true', Bool.not_eq_false', Bool.or_eq_true, Bool.and_eq_true, Bool.or_eq_false_iff, Bool.and_eq_false_iff, Int.not_lt, Int.not_le, Bool.not_true, Bool.not_false, not_and, not_or] at h2)
      (try simp (etaStruct := .none) only [push_cast, Int.cast_ofNat_Int, Nat.reduceAdd, Nat.reduceSub, Nat.reduceMul, reduceCtorEq, reduceIte, Nat.reduceEqDiff, Nat.reduceLT, Nat.reduceLeDiff, Nat.reduceBEq, Int.reduceToNat, Int.reduceLE, Int.reduceLT]); (try simp (disch := omega) only [wrap_in, wk_self, Int.tdiv_eq_ediv_of_nonneg, Int.tmod_eq_emod_of_nonneg]); (repeat (with_reducible refine And.intro ?_ ?_; · first | omega | decide | (simp; done) | (simp; omega) | (intro hh; refine ⟨hh, ?_⟩; omega) | (simp +contextual; done)))
      refine loopI (fun k : Nat => ⟨[(27, I .i64 k), (26, I .i64 f.p.length), (25, .c (.sl 1 (f.p.map i64P)))], [], 0⟩) (fun k : Nat => k ≤ f.p.length ∧ ∀ j, j < k → within (f.p.getD j default) 0 3 = true) (fun k : Nat => f.p.length - k) (0) (⟨Nat.zero_le _, fun j h => by omega⟩) (To.mk [] rfl rfl List.nodup_nil trivial ?_) ?_
      · simp (etaStruct := .none) only [push_cast, Int.cast_ofNat_Int, Nat.reduceAdd, Nat.reduceSub, Nat.reduceMul, reduceCtorEq, reduceIte, Nat.reduceEqDiff, Nat.reduceLT, Nat.reduceLeDiff, Nat.reduceBEq, Int.reduceToNat, Int.reduceLE, Int.reduceLT]
      rintro k ⟨hk, hn⟩
      (try simp (etaStruct := .none) only [push_cast, Int.cast_ofNat_Int, Nat.reduceAdd, Nat.reduceSub, Nat.reduceMul, reduceCtorEq, reduceIte, Nat.reduceEqDiff, Nat.reduceLT, Nat.reduceLeDiff, Nat.reduceBEq, Int.reduceToNat, Int.reduceLE, Int.reduceLT]); (try simp (disch := omega) only [wrap_in, wk_self, Int.tdiv_eq_ediv_of_nonneg, Int.tmod_eq_emod_of_nonneg]); (repeat (with_reducible refine And.intro ?_ ?_; · first | omega | decide | (simp; done) | (simp; omega) | (intro hh; refine ⟨hh, ?_⟩; omega) | (simp +contextual; done)))
      refine cond_i (fun h3 => ?_) (fun h3 => ?_)
      · (try simp only [decide_eq_true_eq, decide_eq_false_iff_not, Bool.not_eq_true', Bool.not_eq_false', Bool.or_eq_true, Bool.and_eq_true, Bool.or_eq_false_iff, Bool.and_eq_false_iff, Int.not_lt, Int.not_le, Bool.not_true, Bool.not_false, not_and, not_or] at h3)
        have hlt : k < f.p.length := by omega
        (try simp (etaStruct := .none) only [push_cast, Int.cast_ofNat_Int, Nat.reduceAdd, Nat.reduceSub, Nat.reduceMul, reduceCtorEq, reduceIte, Nat.reduceEqDiff, Nat.reduceLT, Nat.reduceLeDiff, Nat.reduceBEq, Int.reduceToNat, Int.reduceLE, Int.reduceLT, getD_in _ _ _ hlt, i64P]); (try simp (disch := omega) only [wrap_in, wk_self, Int.tdiv_eq_ediv_of_nonneg, Int.tmod_eq_emod_of_nonneg]); (repeat (with_reducible refine And.intro ?_ ?_; · first | omega | decide | (simp; done) | (simp; omega) | (intro hh; refine ⟨hh, ?_⟩; omega) | (simp +contextual; done))); (try simp (etaStruct := .none) only [push_cast, Int.cast_ofNat_Int, Nat.reduceAdd, Nat.reduceSub, Nat.reduceMul, reduceCtorEq, reduceIte, Nat.reduceEqDiff, Nat.reduceLT, Nat.reduceLeDiff, Nat.reduceBEq, Int.reduceToNat, Int.reduceLE, Int.reduceLT, getD_in _ _ _ hlt, i64P]); (try simp (disch := omega) only [wrap_in, wk_self, Int.tdiv_eq_ediv_of_nonneg, Int.tmod_eq_emod_of_nonneg]); (repeat (with_reducible refine And.intro ?_ ?_; · first | omega | decide | (simp; done) | (simp; omega) | (intro hh; refine ⟨hh, ?_⟩; omega) | (simp +contextual; done)))
        refine callP (between_s (f.p.getD k default) 0 3) (WkL.refl _) ?_
        (try simp (etaStruct := .none) only [push_cast, Int.cast_ofNat_Int, Nat.reduceAdd, Nat.reduceSub, Nat.reduceMul, reduceCtorEq, reduceIte, Nat.reduceEqDiff, Nat.reduceLT, Nat.reduceLeDiff, Nat.reduceBEq, Int.reduceToNat, Int.reduceLE, Int.reduceLT, getD_in _ _ _ hlt, i64P]); (try simp (disch := omega) only [wrap_in, wk_self, Int.tdiv_eq_ediv_of_nonneg, Int.tmod_eq_emod_of_nonneg]); (repeat (with_reducible refine And.intro ?_ ?_; · first | omega | decide | (simp; done) | (simp; omega) | (intro hh; refine ⟨hh, ?_⟩; omega) | (simp +contextual; done))); (try simp (etaStruct := .none) only [push_cast, Int.cast_ofNat_Int, Nat.reduceAdd, Nat.reduceSub, Nat.reduceMul, reduceCtorEq, reduceIte, Nat.reduceEqDiff, Nat.reduceLT, Nat.reduceLeDiff, Nat.reduceBEq, Int.reduceToNat, Int.reduceLE, Int.reduceLT, getD_in _ _ _ hlt, i64P]); (try simp (disch := omega) only [wrap_in, wk_self, Int.tdiv_eq_ediv_of_nonneg, Int.tmod_eq_emod_of_nonneg]); (repeat (with_reducible refine And.intro ?_ ?_; · first | omega | decide | (simp; done) | (simp; omega) | (intro hh; refine ⟨hh, ?_⟩; omega) | (simp +contextual; done)))
        refine cond_i (fun h4 => ?_) (fun h4 => ?_)
        · (try simp only [decide_eq_true_eq, decide_eq_false_iff_not, Bool.not_eq_true', Bool.not_eq_false', Bool.or_eq_true, Bool.and_eq_true, Bool.or_eq_false_iff, Bool.and_eq_false_iff, Int.not_lt, Int.not_le, Bool.not_true, Bool.not_false, not_and, not_or] at h4)
          (try simp (etaStruct := .none) only [push_cast, Int.cast_ofNat_Int, Nat.reduceAdd, Nat.reduceSub, Nat.reduceMul, reduceCtorEq, reduceIte, Nat.reduceEqDiff, Nat.reduceLT, Nat.reduceLeDiff, Nat.reduceBEq, Int.reduceToNat, Int.reduceLE, Int.reduceLT, getD_in _ _ _ hlt, i64P]); (try simp (disch := omega) only [wrap_in, wk_self, Int.tdiv_eq_ediv_of_nonneg, Int.tmod_eq_emod_of_nonneg]); (repeat (with_reducible refine And.intro ?_ ?_; · first | omega | decide | (simp; done) | (simp; omega) | (intro hh; refine ⟨hh, ?_⟩; omega) | (simp +contextual; done))); (try simp (etaStruct := .none) only [push_cast, Int.cast_ofNat_Int, Nat.reduceAdd, Nat.reduceSub, Nat.reduceMul, reduceCtorEq, reduceIte, Nat.reduceEqDiff, Nat.reduceLT, Nat.reduceLeDiff, Nat.reduceBEq, Int.reduceToNat, Int.reduceLE, Int.reduceLT, getD_in _ _ _ hlt, i64P]); (try simp (disch := omega) only [wrap_in, wk_self, Int.tdiv_eq_ediv_of_nonneg, Int.tmod_eq_emod_of_nonneg]); (repeat (with_reducible refine And.intro ?_ ?_; · first | omega | decide | (simp; done) | (simp; omega) | (intro hh; refine ⟨hh, ?_⟩; omega) | (simp +contextual; done)))
          exact ret0 rfl trivial (Wk.of (by rw [fldE_form hb hlt (by simpa using h4)]; rfl))
        · (try simp only [decide_eq_true_eq, decide_eq_false_iff_not, Bool.not_eq_true', Bool.not_eq_false', Bool.or_eq_true, Bool.and_eq_true, Bool.or_eq_false_iff, Bool.and_eq_false_iff, Int.not_lt, Int.not_le, Bool.not_true, Bool.not_false, not_and, not_or] at h4)
          (try simp (etaStruct := .none) only [push_cast, Int.cast_ofNat_Int, Nat.reduceAdd, Nat.reduceSub, Nat.reduceMul, reduceCtorEq, reduceIte, Nat.reduceEqDiff, Nat.reduceLT, Nat.reduceLeDiff, Nat.reduceBEq, Int.reduceToNat, Int.reduceLE, Int.reduceLT, getD_in _ _ _ hlt, i64P]); (try simp (disch := omega) only [wrap_in, wk_self, Int.tdiv_eq_ediv_of_nonneg, Int.tmod_eq_emod_of_nonneg]); (repeat (with_reducible refine And.intro ?_ ?_; · first | omega | decide | (simp; done) | (simp; omega) | (intro hh; refine ⟨hh, ?_⟩; omega) | (simp +contextual; done))); (try simp (etaStruct := .none) only [push_cast, Int.cast_ofNat_Int, Nat.reduceAdd, Nat.reduceSub, Nat.reduceMul, reduceCtorEq, reduceIte, Nat.reduceEqDiff, Nat.reduceLT, Nat.reduceLeDiff, Nat.reduceBEq, Int.reduceToNat, Int.reduceLE, Int.reduceLT, getD_in _ _ _ hlt, i64P]); (try simp (disch := omega) only [wrap_in, wk_self, Int.tdiv_eq_ediv_of_nonneg, Int.tmod_eq_emod_of_nonneg]); (repeat (with_reducible refine And.intro ?_ ?_; · first | omega | decide | (simp; done) | (simp; omega) | (intro hh; refine ⟨hh, ?_⟩; omega) | (simp +contextual; done)))
          refine ⟨k + 1, ⟨by omega, fun j hj => by rcases Nat.lt_or_ge j k with h | h; exact hn j h; rw [show j = k by omega]; simpa using h4⟩, by omega, To.mk [] rfl rfl List.nodup_nil trivial ?_⟩
          · (try simp (etaStruct := .none) only [push_cast, Int.cast_ofNat_Int, Nat.reduceAdd, Nat.reduceSub, Nat.reduceMul, reduceCtorEq, reduceIte, Nat.reduceEqDiff, Nat.reduceLT, Nat.reduceLeDiff, Nat.reduceBEq, Int.reduceToNat, Int.reduceLE, Int.reduceLT, getD_in _ _ _ hlt, i64P]); (try simp (disch := omega) only [wrap_in, wk_self, Int.tdiv_eq_ediv_of_nonneg, Int.tmod_eq_emod_of_nonneg]); (repeat (with_reducible refine And.intro ?_ ?_; · first | omega | decide | (simp; done) | (simp; omega) | (intro hh; refine ⟨hh, ?_⟩; omega) | (simp +contextual; done))); (try simp (etaStruct := .none) only [push_cast, Int.cast_ofNat_Int, Nat.reduceAdd, Nat.reduceSub, Nat.reduceMul, reduceCtorEq, reduceIte, Nat.reduceEqDiff, Nat.reduceLT, Nat.reduceLeDiff, Nat.reduceBEq, Int.reduceToNat, Int.reduceLE, Int.reduceLT, getD_in _ _ _ hlt, i64P]); (try simp (disch := omega) only [wrap_in, wk_self, Int.tdiv_eq_ediv_of_nonneg, Int.tmod_eq_emod_of_nonneg]); (repeat (with_reducible refine And.intro ?_ ?_; · first | omega | decide | (simp; done) | (simp; omega) | (intro hh; refine ⟨hh, ?_⟩; omega) | (simp +contextual; done)))
      · (try simp only [decide_eq_true_eq, decide_eq_false_iff_not, Bool.not_eq_true', Bool.not_eq_false', Bool.or_eq_true, Bool.and_eq_true, Bool.or_eq_false_iff, Bool.and_eq_false_iff, Int.not_lt, Int.not_le, Bool.not_true, Bool.not_false, not_and, not_or] at h3)
        (try simp (etaStruct := .none) only [push_cast, Int.cast_ofNat_Int, Nat.reduceAdd, Nat.reduceSub, Nat.reduceMul, reduceCtorEq, reduceIte, Nat.reduceEqDiff, Nat.reduceLT, Nat.reduceLeDiff, Nat.reduceBEq, Int.reduceToNat, Int.reduceLE, Int.reduceLT]); (try simp (disch := omega) only [wrap_in, wk_self, Int.tdiv_eq_ediv_of_nonneg, Int.tmod_eq_emod_of_nonneg]); (repeat (with_reducible refine And.intro ?_ ?_; · first | omega | decide | (simp; done) | (simp; omega) | (intro hh; refine ⟨hh, ?_⟩; omega) | (simp +contextual; done)))
        exact ret0 rfl trivial (Wk.of (by rw [fldE_fine hb (by omega) (fun j hj => hn j (by omega))]; rfl))
theorem in_s (f : Fld) (c : Cel) (hw : 0 ≤ f.w ∧ f.w ≤ 1000000) (hh : 0 ≤ f.h ∧ f.h ≤ 1000000) : Spec Try.prog 85 [fldA f, celA c] [] (B (inF f c)) [] := by
  refine spec_am Try.func85 rfl rfl mix 19 rfl [.tmp 4] Try.results85 (Nat.le_of_ble_eq_true rfl) ?_
  (try simp (etaStruct := .none) only [push_cast, Int.cast_ofNat_Int, Nat.reduceAdd, Nat.reduceSub, Nat.reduceMul, reduceCtorEq, reduceIte, Nat.reduceEqDiff, Nat.reduceLT, Nat.reduceLeDiff, Nat.reduceBEq, Int.reduceToNat, Int.reduceLE, Int.reduceLT]); (try simp (disch := omega) only [wrap_in, wk_self, Int.tdiv_eq_ediv_of_nonneg, Int.tmod_eq_emod_of_nonneg]); (repeat (with_reducible refine And.intro ?_ ?_; · first | omega | decide | (simp; done) | (simp; omega) | (intro hh; refine ⟨hh, ?_⟩; omega) | (simp +contextual; done)))
  refine callP (between_s c.x 0 (f.w - 1)) (WkL.refl _) ?_
  (try simp (etaStruct := .none) only [push_cast, Int.cast_ofNat_Int, Nat.reduceAdd, Nat.reduceSub, Nat.reduceMul, reduceCtorEq, reduceIte, Nat.reduceEqDiff, Nat.reduceLT, Nat.reduceLeDiff, Nat.reduceBEq, Int.reduceToNat, Int.reduceLE, Int.reduceLT]); (try simp (disch := omega) only [wrap_in, wk_self, Int.tdiv_eq_ediv_of_nonneg, Int.tmod_eq_emod_of_nonneg]); (repeat (with_reducible refine And.intro ?_ ?_; · first | omega | decide | (simp; done) | (simp; omega) | (intro hh; refine ⟨hh, ?_⟩; omega) | (simp +contextual; done)))
  refine gcallP (fun hcc => between_s c.y 0 (f.h - 1)) (WkL.refl _) (by intro hc; (try simp (etaStruct := .none) only [push_cast, Int.cast_ofNat_Int, Nat.reduceAdd, Nat.reduceSub, Nat.reduceMul, reduceCtorEq, reduceIte, Nat.reduceEqDiff, Nat.reduceLT, Nat.reduceLeDiff, Nat.reduceBEq, Int.reduceToNat, Int.reduceLE, Int.reduceLT]); (try simp_all)) ?_
  (try simp (etaStruct := .none) only [push_cast, Int.cast_ofNat_Int, Nat.reduceAdd, Nat.reduceSub, Nat.reduceMul, reduceCtorEq, reduceIte, Nat.reduceEqDiff, Nat.reduceLT, Nat.reduceLeDiff, Nat.reduceBEq, Int.reduceToNat, Int.reduceLE, Int.reduceLT]); (try simp (disch := omega) only [wrap_in, wk_self, Int.tdiv_eq_ediv_of_nonneg, Int.tmod_eq_emod_of_nonneg]); (repeat (with_reducible refine And.intro ?_ ?_; · first | omega | decide | (simp; done) | (simp; omega) | (intro hh; refine ⟨hh, ?_⟩; omega) | (simp +contextual; done)))
  (first | (refine ret0 rfl (by repeat' (first | exact trivial | exact rfl | refine ⟨?_, ?_⟩)) (Wk.of ?_); (try simp (etaStruct := .none) only [push_cast, Int.cast_ofNat_Int, Nat.reduceAdd, Nat.reduceSub, Nat.reduceMul, reduceCtorEq, reduceIte, Nat.reduceEqDiff, Nat.reduceLT, Nat.reduceLeDiff, Nat.reduceBEq, Int.reduceToNat, Int.reduceLE, Int.reduceLT]); first | done | (simp [inF, *]; done) | (simp_all [inF]; done)) | (refine ret0 rfl (by repeat' (first | exact trivial | exact rfl | refine ⟨?_, ?_⟩)) ?_; (try simp (etaStruct := .none) only [push_cast, Int.cast_ofNat_Int, Nat.reduceAdd, Nat.reduceSub, Nat.reduceMul, reduceCtorEq, reduceIte, Nat.reduceEqDiff, Nat.reduceLT, Nat.reduceLeDiff, Nat.reduceBEq, Int.reduceToNat, Int.reduceLE, Int.reduceLT]); (try simp [inF, *]); (try (first | exact Wk.refl _ | exact Wk.nil _ | (refine Wk.tup ?_; repeat' (first | exact trivial | exact Wk.refl _ | exact Wk.nil _ | refine ⟨?_, ?_⟩ | (refine Wk.agg ?_)))))))
theorem place_s (f : Fld) (c : Cel) (h : fldE f = 0) (hc : inF f c = true) : Spec Try.prog 86 [fldA f, celA c] [] (I .i64 (placeV f c)) [] := by
  obtain ⟨i1, i2, i3, i4, i5⟩ := place_ix h hc
  have j1 := inF_iff.1 hc
  obtain ⟨e1, e2, e3, e4⟩ := fldE_ok h
  refine spec_am Try.func86 rfl rfl mix 17 rfl [.tmp 4] Try.results86 (Nat.le_of_ble_eq_true rfl) ?_
  (try simp (etaStruct := .none) only [push_cast, Int.cast_ofNat_Int, Nat.reduceAdd, Nat.reduceSub, Nat.reduceMul, reduceCtorEq, reduceIte, Nat.reduceEqDiff, Nat.reduceLT, Nat.reduceLeDiff, Nat.reduceBEq, Int.reduceToNat, Int.reduceLE, Int.reduceLT, getD_in _ _ _ (show (c.y * f.w + c.x).toNat < f.p.length by omega), i64P]); (try simp (disch := omega) only [wrap_in, wk_self, Int.tdiv_eq_ediv_of_nonneg, Int.tmod_eq_emod_of_nonneg]); (repeat (with_reducible refine And.intro ?_ ?_; · first | omega | decide | (simp; done) | (simp; omega) | (intro hh; refine ⟨hh, ?_⟩; omega) | (simp +contextual; done))); (try simp (etaStruct := .none) only [push_cast, Int.cast_ofNat_Int, Nat.reduceAdd, Nat.reduceSub, Nat.reduceMul, reduceCtorEq, reduceIte, Nat.reduceEqDiff, Nat.reduceLT, Nat.reduceLeDiff, Nat.reduceBEq, Int.reduceToNat, Int.reduceLE, Int.reduceLT, getD_in _ _ _ (show (c.y * f.w + c.x).toNat < f.p.length by omega), i64P]); (try simp (disch := omega) only [wrap_in, wk_self, Int.tdiv_eq_ediv_of_nonneg, Int.tmod_eq_emod_of_nonneg]); (repeat (with_reducible refine And.intro ?_ ?_; · first | omega | decide | (simp; done) | (simp; omega) | (intro hh; refine ⟨hh, ?_⟩; omega) | (simp +contextual; done)))
  (first | (refine ret0 rfl (by repeat' (first | exact trivial | exact rfl | refine ⟨?_, ?_⟩)) (Wk.of ?_); (try simp (etaStruct := .none) only [push_cast, Int.cast_ofNat_Int, Nat.reduceAdd, Nat.reduceSub, Nat.reduceMul, reduceCtorEq, reduceIte, Nat.reduceEqDiff, Nat.reduceLT, Nat.reduceLeDiff, Nat.reduceBEq, Int.reduceToNat, Int.reduceLE, Int.reduceLT]); first | done | (simp [placeV, *]; done) | (simp_all [placeV]; done)) | (refine ret0 rfl (by repeat' (first | exact trivial | exact rfl | refine ⟨?_, ?_⟩)) ?_; (try simp (etaStruct := .none) only [push_cast, Int.cast_ofNat_Int, Nat.reduceAdd, Nat.reduceSub, Nat.reduceMul, reduceCtorEq, reduceIte, Nat.reduceEqDiff, Nat.reduceLT, Nat.reduceLeDiff, Nat.reduceBEq, Int.reduceToNat, Int.reduceLE, Int.reduceLT]); (try simp [placeV, *]); (try (first | exact Wk.refl _ | exact Wk.nil _ | (refine Wk.tup ?_; repeat' (first | exact trivial | exact Wk.refl _ | exact Wk.nil _ | refine ⟨?_, ?_⟩ | (refine Wk.agg ?_)))))))
end Go.Proofs.Ytjkdhjmegoblnaa
namespace Go.Proofs.Ytjkdhjmegoblnaa
set_option linter.all false
open Go.RowKit
theorem RelL.setAt {U F : Nat → Prop} {β : Nat → Option Bind} {w : World} {y : AV} : ∀ {cs : List AV} {us : List Value} (j : Nat), RelL U w F β cs us → (∀ u, us[j]? = some u → RelA U w F β y u) → RelL U w F β (cs.set j y) us
  | [], us, j, h, _ => by simpa using h
  | x :: r, us, j, h, hy => by
    simp only [RelL] at h
    obtain ⟨u, us', rfl, h1, h2⟩ := h
    cases j with
    | zero => simp only [List.set_cons_zero, RelL]; exact ⟨u, us', rfl, hy u rfl, h2⟩
    | succ j => simp only [List.set_cons_succ, RelL]; exact ⟨u, us', rfl, h1, RelL.setAt j h2 (fun v hv => hy v (by simpa using hv))⟩
theorem To.nilC {k : Nat} {s : St} (id j e sz tt : Nat) (cs : List AV) (hc : lookC s.h id = .blk tt cs) (hj : cs[j]? = some (.c (.v (.slice none 0 0)))) : ToK k s ⟨s.t, (s.n, .row e sz []) :: (id, .blk tt (cs.set j (.own s.n))) :: s.h, s.n + 1⟩ := by
  intro H F β a w hk C
  obtain ⟨bd0, hb1, hb2⟩ := C.m.ch id (by rw [hc]; simp)
  have hidn : id ≠ s.n := fun h => absurd (C.m.used _ _ hb1) (by rw [h]; exact Nat.lt_irrefl _)
  obtain ⟨M, E⟩ := C.m.step (w' := w) (h' := lookC ((s.n, .row e sz []) :: (id, .blk tt (cs.set j (.own s.n))) :: s.h)) (β' := updB β s.n (some ⟨.slice none 0 0, none, 0, sz⟩)) (F' := F) (U' := (· < s.n + 1)) (fun i => i = s.n ∨ i = id)
    (fun i hi => by simp only [not_or] at hi; simp [updB, Ne.symm hi.1]) (fun i hi => by simp only [not_or] at hi; simp [lookC, Ne.symm hi.1, Ne.symm hi.2]) rfl rfl rfl (Nat.le_refl _) (fun _ _ _ => rfl) (fun i hi => Nat.lt_succ_of_lt hi) (fun b hb => hb)
    (fun b hb => ⟨C.m.fin b hb, .inl hb⟩)
    (fun i bd' hi hu hb => by
      rcases hi with rfl | rfl
      · exact absurd hu (Nat.lt_irrefl _)
      · simpa [updB, Ne.symm hidn] using hb)
    (fun i bd' hi hb => by
      rcases hi with rfl | rfl
      · simp only [updB, if_true, Option.some.injEq] at hb
        subst hb
        exact ⟨Nat.lt_succ_self _, fun b hb => by simp at hb⟩
      · have hb' : β i = some bd' := by simpa [updB, Ne.symm hidn] using hb
        refine ⟨Nat.lt_succ_of_lt (C.m.used _ _ hb'), fun b hbb => ?_⟩
        obtain ⟨p1, p2, p3⟩ := C.m.off _ _ _ hb' hbb
        exact ⟨p2, p1, .inr ⟨i, bd', .inr rfl, hb', hbb⟩⟩)
    (fun i j' bi bj b hi hj' hbi hbj h1 h2 => by
      rcases hi with rfl | rfl <;> rcases hj' with rfl | rfl
      · rfl
      · simp only [updB, if_true, Option.some.injEq] at hbi; subst hbi; simp at h1
      · simp only [updB, if_true, Option.some.injEq] at hbj; subst hbj; simp at h2
      · rfl)
    (fun E i hi _ => by
      rcases hi with rfl | rfl
      · refine ⟨⟨.slice none 0 0, none, 0, sz⟩, by simp [updB], ?_⟩
        simp only [lookC, if_true, ChOk]
        simp
      · refine ⟨bd0, by simpa [updB, Ne.symm hidn] using hb1, ?_⟩
        have hb2' := ChOk.mono E (fun g _ => rfl) hb2
        rw [hc] at hb2'
        simp only [lookC, if_true, Ne.symm hidn, if_false]
        obtain ⟨q1, q2, g, vs, q3, q4, q5, q6, q7⟩ := hb2'
        refine ⟨by rw [List.length_set]; exact q1, q2, g, vs, q3, q4, q5, RelL.setAt j q6 (fun u hu => ?_), q7⟩
        obtain ⟨u', hu', hr⟩ := q6.at j _ hj
        rw [hu] at hu'; cases hu'
        rw [relC] at hr
        simp only [RelA]
        rw [hr.1]
        refine ⟨Nat.lt_succ_self _, rfl, fun bd hb => ?_⟩
        simp only [updB, if_true, Option.some.injEq] at hb
        subst hb; rfl)
  refine ⟨F, updB β s.n (some ⟨.slice none 0 0, none, 0, sz⟩), fun t' => RelA.mono E _ _ (C.t t'), M, C.nt, C.d, C.f, C.g, fun i bd' hi hb => ?_, Nat.le_succ_of_le C.k⟩
  refine C.e i bd' hi ?_
  have : s.n ≠ i := by have := C.k; omega
  simpa [updB, this] using hb
theorem To.cutC {k : Nat} {s : St} (bid j id l e sz tt : Nat) (cs : List AV) (xs : List (List PV)) (hc : lookC s.h bid = .blk tt cs) (hj : cs[j]? = some (.view id 0 l)) (hr : lookC s.h id = .row e sz xs) (hl : l ≤ xs.length) :
    ToK k s ⟨s.t, (s.n, .row e sz (xs.take l)) :: (id, .dead) :: (bid, .blk tt (cs.set j (.own s.n))) :: s.h, s.n + 1⟩ := by
  intro H F β a w hk C
  obtain ⟨bd0, hb1, hb2⟩ := C.m.ch bid (by rw [hc]; simp)
  obtain ⟨bd1, hr1, hr2⟩ := C.m.ch id (by rw [hr]; simp)
  have hbn : bid ≠ s.n := fun h => absurd (C.m.used _ _ hb1) (by rw [h]; exact Nat.lt_irrefl _)
  have hin : id ≠ s.n := fun h => absurd (C.m.used _ _ hr1) (by rw [h]; exact Nat.lt_irrefl _)
  have hbi : bid ≠ id := fun h => by rw [h, hr] at hc; simp at hc
  have hb2' := hb2
  rw [hc] at hb2'
  obtain ⟨q1, q2, g0, vs, q3, q4, q5, q6, q7⟩ := hb2'
  obtain ⟨u, hu, hv⟩ := q6.at j _ hj
  simp only [RelA] at hv
  obtain ⟨_, hone, hv⟩ := hv
  obtain ⟨va, vc, rfl, hvl, hvc, hvm, hvg, hvn⟩ := hv bd1 hr1
  obtain ⟨vn, hvn⟩ := hvn trivial
  have hr3 := hr2
  rw [hr] at hr3
  obtain ⟨p1, p2, p3, p4⟩ := hr3
  have nb : ∃ b, (⟨.slice va l vc, b, l, sz⟩ : Bind).b = bd1.b ∧ ((b = none ∧ l = 0 ∧ (Value.slice va l vc) = .slice none 0 0) ∨ ∃ g cur, b = some g ∧ va = some ⟨g, 0, none⟩ ∧ w.heap[g]? = some (.cells cur e (0, 0)) ∧ l ≤ vc ∧ vc ≤ maxLen ∧ cur.size = vc * sz ∧ RelE w F g sz 0 (xs.take l)) := by
    refine ⟨bd1.b, rfl, ?_⟩
    rcases p4 with ⟨h1, h2, h3⟩ | ⟨g, cap, cur, h1, h2, h3, h4, h5, h6, h7⟩
    · rw [h3] at hvn
      simp only [Value.slice.injEq] at hvn
      obtain ⟨rfl, _, rfl⟩ := hvn
      have : l = 0 := by subst h2; simpa using hl
      subst this
      exact .inl ⟨h1, rfl, rfl⟩
    · rw [h2] at hvn
      simp only [Value.slice.injEq] at hvn
      obtain ⟨rfl, _, rfl⟩ := hvn
      refine .inr ⟨g, cur, h1, rfl, h3, hvc, hvm, h6, ?_⟩
      refine RelE.of fun i cs' hi => ?_
      rw [List.getElem?_take] at hi
      split at hi
      · exact RelE.at h7 i cs' hi
      · simp at hi
  obtain ⟨nbb, hnb, hnc⟩ := nb
  obtain ⟨M, E⟩ := C.m.step (w' := w) (h' := lookC ((s.n, .row e sz (xs.take l)) :: (id, .dead) :: (bid, .blk tt (cs.set j (.own s.n))) :: s.h)) (β' := updB (updB β id none) s.n (some ⟨.slice va l vc, nbb, l, sz⟩)) (F' := F) (U' := (· < s.n + 1)) (fun i => i = s.n ∨ i = id ∨ i = bid)
    (fun i hi => by simp only [not_or] at hi; simp [updB, Ne.symm hi.1, Ne.symm hi.2.1]) (fun i hi => by simp only [not_or] at hi; simp [lookC, Ne.symm hi.1, Ne.symm hi.2.1, Ne.symm hi.2.2]) rfl rfl rfl (Nat.le_refl _) (fun _ _ _ => rfl) (fun i hi => Nat.lt_succ_of_lt hi) (fun b hb => hb)
    (fun b hb => ⟨C.m.fin b hb, .inl hb⟩)
    (fun i bd' hi hu hb => by
      rcases hi with rfl | rfl | rfl
      · exact absurd hu (Nat.lt_irrefl _)
      · simp [updB, Ne.symm hin] at hb
      · simpa [updB, Ne.symm hbn, Ne.symm hbi] using hb)
    (fun i bd' hi hb => by
      rcases hi with rfl | rfl | rfl
      · simp only [updB, if_true, Option.some.injEq] at hb
        subst hb
        refine ⟨Nat.lt_succ_self _, fun b hbb => ?_⟩
        have hbb' : bd1.b = some b := by rw [← hnb]; exact hbb
        obtain ⟨r1, r2, r3⟩ := C.m.off _ _ _ hr1 hbb'
        exact ⟨r2, r1, .inr ⟨id, bd1, .inr (.inl rfl), hr1, hbb'⟩⟩
      · simp [updB, Ne.symm hin] at hb
      · have hb' : β i = some bd' := by simpa [updB, Ne.symm hbn, Ne.symm hbi] using hb
        refine ⟨Nat.lt_succ_of_lt (C.m.used _ _ hb'), fun b hbb => ?_⟩
        obtain ⟨p1, p2, p3⟩ := C.m.off _ _ _ hb' hbb
        exact ⟨p2, p1, .inr ⟨i, bd', .inr (.inr rfl), hb', hbb⟩⟩)
    (fun i j' bi bj b hi hj' hbi2 hbj h1 h2 => by
      have old : ∀ i' bd', i' = bid → (updB (updB β id none) s.n (some ⟨.slice va l vc, nbb, l, sz⟩)) i' = some bd' → β bid = some bd' := by
        intro i' bd' h hb; subst h; simpa [updB, Ne.symm hbn, Ne.symm hbi] using hb
      rcases hi with rfl | rfl | rfl <;> rcases hj' with rfl | rfl | rfl
      · rfl
      · simp [updB, Ne.symm hin] at hbj
      · simp only [updB, if_true, Option.some.injEq] at hbi2; subst hbi2
        have := C.m.dis id j' bd1 bj b hr1 (old _ _ rfl hbj) (by rw [← hnb]; exact h1) h2
        exact absurd this.symm hbi
      · simp [updB, Ne.symm hin] at hbi2
      · rfl
      · simp [updB, Ne.symm hin] at hbi2
      · simp only [updB, if_true, Option.some.injEq] at hbj; subst hbj
        have := C.m.dis i id bi bd1 b (old _ _ rfl hbi2) hr1 h1 (by rw [← hnb]; exact h2)
        exact absurd this hbi
      · simp [updB, Ne.symm hin] at hbj
      · rfl)
    (fun E i hi hd => by
      rcases hi with rfl | rfl | rfl
      · refine ⟨⟨.slice va l vc, nbb, l, sz⟩, by simp [updB], ?_⟩
        simp only [lookC, if_true, ChOk]
        refine ⟨trivial, by rw [List.length_take]; omega, fun cs' hcs => p3 cs' (List.mem_of_mem_take hcs), ?_⟩
        rcases hnc with ⟨h1, h2, h3⟩ | ⟨g, cur, h1, h2, h3, h4, h5, h6, h7⟩
        · exact .inl ⟨h1, by rw [h2]; rfl, h3⟩
        · refine .inr ⟨g, vc, cur, h1, ?_, h3, ?_, h5, h6, h7⟩
          · rw [h2, List.length_take, Nat.min_eq_left hl]
          · rw [List.length_take, Nat.min_eq_left hl]; exact h4
      · simp [lookC, Ne.symm hin] at hd
      · refine ⟨bd0, by simpa [updB, Ne.symm hbn, Ne.symm hbi] using hb1, ?_⟩
        have hb3 := ChOk.mono E (fun g _ => rfl) hb2
        rw [hc] at hb3
        simp only [lookC, if_true, Ne.symm hbn, Ne.symm hbi, if_false]
        obtain ⟨q1, q2, g, vs', q3', q4, q5', q6', q7⟩ := hb3
        have hg : g = g0 := by rw [q3] at q3'; exact (Option.some.inj q3').symm
        subst hg
        have hvs : vs' = vs := by rw [q5] at q5'; simpa using q5'.symm
        subst hvs
        refine ⟨by rw [List.length_set]; exact q1, q2, g, vs', q3', q4, q5', RelL.setAt j q6' (fun u hu2 => ?_), q7⟩
        rw [hu] at hu2
        obtain rfl := Option.some.inj hu2
        simp only [RelA]
        refine ⟨Nat.lt_succ_self _, rfl, fun bd hb => ?_⟩
        simp only [updB, if_true, Option.some.injEq] at hb
        subst hb; rfl)
  refine ⟨F, _, fun t' => RelA.mono E _ _ (C.t t'), M, C.nt, C.d, C.f, C.g, fun i bd' hi hb => ?_, Nat.le_succ_of_le C.k⟩
  have h1 : s.n ≠ i := by have := C.k; omega
  by_cases h2 : id = i
  · subst h2; simp [updB, h1] at hb
  · exact C.e i bd' hi (by simpa [updB, h1, h2] using hb)
end Go.Proofs.Ytjkdhjmegoblnaa
