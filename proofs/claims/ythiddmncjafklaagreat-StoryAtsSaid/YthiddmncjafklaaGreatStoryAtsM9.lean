/- Lemmas for the proof of storyAts.proved. -/
import Derived.Test.YthiddmncjafklaaGreatStoryAtsM8
namespace Go.Proofs.YthiddmncjafklaaGreat
set_option linter.all false
open Go.RowKit
set_option maxRecDepth 100000
set_option maxHeartbeats 1000000
theorem ordss_clone (l : List (List Ord)) (hl : l.length ≤ 5864062014805) : Spec Tryz.prog 43 [.c (.sl 1 (l.map ordsP))] [] (.own 0) [.row 29 1 (l.map ordsP)] := by
 refine spec_am Tryz.func43 rfl rfl mix 8 rfl [.tmp 2] Tryz.results43 (Nat.le_of_ble_eq_true rfl) ?_
 (try (refine xst ?_; try exact xtI))
 intro b hb
 (try (refine xst ?_; try exact xtI))
 refine cond_i (fun h => ?_) (fun h => ?_)
 ·(try (refine xst ?_; try exact xtI))
  have e := hb h
  refine retTo (To.nil 2 29 1 rfl) (retM [0] rfl rfl (by decide) ⟨?_, trivial⟩ trivial ?_)
  ·simp (etaStruct := .none) only [push_cast, DrawG, Int.cast_ofNat_Int, seval, e]
  ·simp (etaStruct := .none) only [push_cast, DrawG, Int.cast_ofNat_Int, seval]
 ·(try (refine xst ?_; try exact xtI))
  refine retM [1] rfl rfl (by decide) ⟨?_, trivial⟩ trivial ?_
  ·simp (etaStruct := .none) only [push_cast, DrawG, Int.cast_ofNat_Int, seval]
  ·simp (etaStruct := .none) only [push_cast, DrawG, Int.cast_ofNat_Int, seval]
theorem rmore_a (s : Sty) (l : List Ord) (WR : Cel → List Int) (hWR : ∀ a, FloodIs s.start.f [a] (WR a)) (hl : StyL s) (hll : l.length ≤ 9223372036854775807) (hE : styE WR s ≠ 0) : Spec Tryz.prog 16 [styA s, .c (.sl 6 (l.map ordP))] [] (.tup [styA (moreS WR s l), I .i64 (moreE WR s l)]) [] := by
 have T := rrun_s s.start s.turns WR hWR hl.w hl.t
 have e : moreE WR s l = styE WR s := if_pos hE
 have e2 : moreS WR s l = default := if_neg (by rw [e]; exact hE)
 rw [e, e2]
 refine spec_am Tryz.func16 rfl rfl mix 47 rfl [.cell 4 47, .tmp 5] Tryz.results16 (Nat.le_of_ble_eq_true rfl) ?_
 (try (refine xst ?_; try exact xtI))
 refine caP (T) ?_
 (try (refine xst ?_; try exact xtI))
 refine cond_i (fun h1 => ?_) (fun h1 => ?_)
 ·(try replace h1 := xhh h1)
  exact absurd h1.1 hE
 ·(try replace h1 := xhh h1)
  (try (refine xst ?_; try exact xtI))
  refine cond_i (fun h2 => ?_) (fun h2 => ?_)
  ·(try replace h2 := xhh h2)
   exact absurd h2 hE
  ·(try replace h2 := xhh h2)
   (try (refine xst ?_; try exact xtI))
   refine cond_i (fun h3 => ?_) (fun h3 => ?_)
   ·(try replace h3 := xhh h3)
    (try (refine xst ?_; try exact xtI))
    exact xrz rfl
   ·(try replace h3 := xhh h3)
    exact absurd h3 hE
theorem rmore_b (s : Sty) (l : List Ord) (WR : Cel → List Int) (hWR : ∀ a, FloodIs s.start.f [a] (WR a)) (hl : StyL s) (hll : l.length ≤ 9223372036854775807) (hE : styE WR s = 0) (hn : 199 < s.turns.length) : Spec Tryz.prog 16 [styA s, .c (.sl 6 (l.map ordP))] [] (.tup [styA (moreS WR s l), I .i64 (moreE WR s l)]) [] := by
 have T := rrun_s s.start s.turns WR hWR hl.w hl.t
 rw [show runRE WR s.turns s.start = 0 from hE] at T
 have e : moreE WR s l = 6 := by unfold moreE; rw [if_neg (fun hn => hn hE), if_pos hn]
 have e2 : moreS WR s l = default := if_neg (by rw [e]; decide)
 rw [e, e2]
 refine spec_am Tryz.func16 rfl rfl mix 47 rfl [.cell 4 47, .tmp 5] Tryz.results16 (Nat.le_of_ble_eq_true rfl) ?_
 (try (refine xst ?_; try exact xtI))
 refine caP (T) ?_
 (try (refine xst ?_; try exact xtI))
 refine cond_i (fun h1 => ?_) (fun h1 => ?_)
 ·(try replace h1 := xhh h1)
  (try (refine xst ?_; try exact xtI))
  refine cond_i (fun h2 => ?_) (fun h2 => ?_)
  ·(try replace h2 := xhh h2)
   simp at h2
  ·(try replace h2 := xhh h2)
   (try (refine xst ?_; try exact xtI))
   refine cond_i (fun h3 => ?_) (fun h3 => ?_)
   ·(try replace h3 := xhh h3)
    (try (refine xst ?_; try exact xtI))
    exact xrz rfl
   ·(try replace h3 := xhh h3)
    simp at h3
 ·(try replace h1 := xhh h1)
  omega
theorem rmore_c (s : Sty) (l : List Ord) (WR : Cel → List Int) (hWR : ∀ a, FloodIs s.start.f [a] (WR a)) (hl : StyL s) (hll : l.length ≤ 9223372036854775807) (hE : styE WR s = 0) (hn : s.turns.length ≤ 199) : Spec Tryz.prog 16 [styA s, .c (.sl 6 (l.map ordP))] [] (.tup [styA (moreS WR s l), I .i64 (moreE WR s l)]) [] := by
 have T := rrun_s s.start s.turns WR hWR hl.w hl.t
 rw [show runRE WR s.turns s.start = 0 from hE] at T
 obtain ⟨r1, r2, r3⟩ := wld_run hWR hE
 have e : moreE WR s l = turnE l (runRW WR s.turns s.start) := by unfold moreE; rw [if_neg (fun hn => hn hE), if_neg (by omega)]
 have U := rturn_s (runRW WR s.turns s.start) l WR r3 r2.l hll
 refine spec_am Tryz.func16 rfl rfl mix 47 rfl [.cell 4 47, .tmp 5] Tryz.results16 (Nat.le_of_ble_eq_true rfl) ?_
 (try (refine xst ?_; try exact xtI))
 refine caP (T) ?_
 (try (refine xst ?_; try exact xtI))
 refine cond_i (fun h1 => ?_) (fun h1 => ?_)
 ·(try replace h1 := xhh h1)
  omega
 ·(try replace h1 := xhh h1)
  (try (refine xst ?_; try exact xtI))
  refine cond_i (fun h2 => ?_) (fun h2 => ?_)
  ·(try replace h2 := xhh h2)
   (try (refine xst ?_; try exact xtI))
   refine caP (U) ?_
   (try (refine xst ?_; try exact xtI))
   refine cond_i (fun h3 => ?_) (fun h3 => ?_)
   ·(try replace h3 := xhh h3)
    have e2 : moreS WR s l = default := if_neg (by rw [e]; exact h3)
    rw [e, e2]
    (try (refine xst ?_; try exact xtI))
    exact xrz rfl
   ·(try replace h3 := xhh h3)
    have e2 : moreS WR s l = ⟨s.start, s.turns ++ [l]⟩ := if_pos (by rw [e]; exact h3)
    rw [e, e2, h3]
    (try (refine xst ?_; try exact xtI))
    refine caM [] (ordss_clone s.turns (by omega)) ?_
    (try (refine xst ?_; try exact xtI))
    have hq : (s.turns ++ [l]).map ordsP = s.turns.map ordsP ++ [[.sl 6 (l.map ordP)]] := by rw [List.map_append]; rfl
    refine ret0 rfl (by repeat' (first | exact trivial | exact rfl | refine ⟨?_, ?_⟩)) (Wk.of ?_)
    show _ = AV.tup [.agg [I .i64 s.start.f.w, I .i64 s.start.f.h, .c (.sl 1 (s.start.f.p.map i64P)), .c (.sl 2 (s.start.bases.map celP)), .c (.sl 1 (s.start.stocks.map i64P)), .c (.sl 1 (s.start.mines.map i64P)), .c (.sl 7 (s.start.troops.map trpP)), I .i64 s.start.next, I .i64 s.start.now, .c (.sl 1 ((s.turns ++ [l]).map ordsP))], I .i64 0]
    rw [hq]
    first | rfl | kernel_rfl
  ·(try replace h2 := xhh h2)
   simp at h2
theorem rmore_s (s : Sty) (l : List Ord) (WR : Cel → List Int) (hWR : ∀ a, FloodIs s.start.f [a] (WR a)) (hl : StyL s) (hll : l.length ≤ 9223372036854775807) : Spec Tryz.prog 16 [styA s, .c (.sl 6 (l.map ordP))] [] (.tup [styA (moreS WR s l), I .i64 (moreE WR s l)]) [] := by
 by_cases hE : styE WR s = 0
 ·by_cases hn : 199 < s.turns.length
  ·exact rmore_b s l WR hWR hl hll hE hn
  ·exact rmore_c s l WR hWR hl hll hE (by omega)
 ·exact rmore_a s l WR hWR hl hll hE
theorem sameO_s (a b : List Ord) (ha : a.length ≤ 9223372036854775807) (hb : b.length ≤ 9223372036854775807) : Spec Tryz.prog 45 [ordsB a, ordsB b] [] (B (decide (a = b))) [] := by
 refine spec_am Tryz.func45 rfl rfl mix 8 rfl [.tmp 4] Tryz.results45 (Nat.le_of_ble_eq_true rfl) ?_
 (try (refine xst ?_; try exact xtI))
 refine caP (ord_eq a b ha hb) ?_
 (try (refine xst ?_; try exact xtI))
 exact xrz rfl
theorem sameSty_s (s : Sty) (hl : StyL s) : Spec Tryz.prog 20 [styA s, styA s] [] (B true) [] := by
 have EQ := ords_eqf 45 (fun a b => decide (a = b)) s.turns s.turns hl.n hl.n (fun x hx y hy => sameO_s x y (hl.t x hx) (hl.t y hy))
 rw [show (decide (s.turns.length = s.turns.length) && (List.range s.turns.length).all fun i => decide (s.turns.getD i default = s.turns.getD i default)) = true from by simp] at EQ
 have SW := sameWorld_s s.start s.start hl.w hl.w
 rw [decide_eq_true rfl] at SW
 refine spec_am Tryz.func20 rfl rfl mix 17 rfl [.tmp 4] Tryz.results20 (Nat.le_of_ble_eq_true rfl) ?_
 (try (refine xst ?_; try exact xtI))
 refine caP (SW) ?_
 (try (refine xst ?_; try exact xtI))
 refine gcP (fun hcc => EQ) ?_
 (try (refine xst ?_; try exact xtI))
 exact xrz rfl
theorem styD_l : StyL default := ⟨wldD_l, fun l (h : l ∈ ([] : List (List Ord))) => by simp at h, Nat.zero_le _⟩
theorem moreS_l (s : Sty) (l : List Ord) (WR : Cel → List Int) (hl : StyL s) (hll : l.length ≤ 9223372036854775807) : StyL (moreS WR s l) := by
 unfold moreS
 split
 ·rename_i h
  have hE : styE WR s = 0 := Decidable.byContradiction fun hn => by
   unfold moreE at h; rw [if_pos hn] at h; exact hn h
  have hn := (runRE_ok hE).1
  refine ⟨hl.w, fun x hx => ?_, by simp; omega⟩
  rcases List.mem_append.1 hx with hx | hx
  ·exact hl.t x hx
  ·rw [List.mem_singleton] at hx; rw [hx]; exact hll
 ·exact styD_l
end Go.Proofs.YthiddmncjafklaaGreat
namespace Go.Proofs.YthiddmncjafklaaGreat
set_option linter.all false
open Go.RowKit Go.ChangeShapes Go.WideShapes Go.ChangeAt
def RelCs (w : World) (ps : List PV) (cs : List Value) : Prop := ∀ (j : Nat) p u, ps[j]? = some p → cs[j]? = some u → RelP w (· < w.heap.size) p u
theorem RelCs.nil {w : World} : RelCs w [] [] := fun j p u h => by simp at h
theorem RelCs.cons {w : World} {p : PV} {u : Value} {ps : List PV} {cs : List Value} (h : RelP w (· < w.heap.size) p u) (h' : RelCs w ps cs) : RelCs w (p :: ps) (u :: cs) := by
 intro j q v h1 h2
 cases j with
 | zero => simp at h1 h2; subst h1 h2; exact h
 | succ j => exact h' j q v (by simpa using h1) (by simpa using h2)
theorem RelCs.append {w : World} : ∀ {ps qs : List PV} {cs ds : List Value}, ps.length = cs.length → RelCs w ps cs → RelCs w qs ds → RelCs w (ps ++ qs) (cs ++ ds)
 | [], _, [], _, _, _, h => h
 | [], _, _ :: _, _, hl, _, _ => by simp at hl
 | _ :: _, _, [], _, hl, _, _ => by simp at hl
 | p :: ps, qs, c :: cs, ds, hl, h, h' => by
  refine RelCs.cons (h 0 p c rfl rfl) (RelCs.append (by simpa using hl) (fun j q v h1 h2 => h (j + 1) q v (by simpa using h1) (by simpa using h2)) h')
def OpA (P : Program) (T sz : Nat) (w : World) {α : Type} (pv : α → List PV) (ok : α → Prop) : Prop :=
 ∃ (β : Type) (enc : β → List Value) (okb : β → Prop) (f : β → α), Opens P T sz w enc okb ∧ ∀ y, okb y → ok (f y) ∧ (pv (f y)).length = sz ∧ (enc y).length = sz ∧ RelCs w (pv (f y)) (enc y)
section
variable {P : Program} {T : Nat} {w : World}
theorem OpA.i64 (h : P.underlying T = some (.int .i64)) : OpA P T 1 w i64P In64 :=
 ⟨_, _, _, id, Opens.i64 h, fun y hy => ⟨hy, rfl, rfl, .cons (relP_v rfl) .nil⟩⟩
theorem OpA.u64 (h : P.underlying T = some (.int .u64)) : OpA P T 1 w u64P (fun n => n < 18446744073709551616) :=
 ⟨_, _, _, id, Opens.u64 h, fun y hy => ⟨hy, rfl, rfl, .cons (relP_v rfl) .nil⟩⟩
def u32P (n : Nat) : List PV := [.v (.int .u32 n)]
theorem OpA.u32 (h : P.underlying T = some (.int .u32)) : OpA P T 1 w u32P (fun n => n < 4294967296) :=
 ⟨_, _, _, id, Opens.u32 h, fun y hy => ⟨hy, rfl, rfl, .cons (relP_v rfl) .nil⟩⟩
theorem OpA.bool (h : P.underlying T = some .bool) : OpA P T 1 w boolP (fun _ => True) :=
 ⟨_, _, _, id, Opens.bool h, fun y hy => ⟨hy, rfl, rfl, .cons (relP_v rfl) .nil⟩⟩
theorem OpA.str (h : P.underlying T = some .string) : OpA P T 1 w strP (fun s => s.size ≤ 140737488351232) :=
 ⟨_, _, _, id, Opens.str h, fun y hy => ⟨hy, rfl, rfl, .cons (relP_v rfl) .nil⟩⟩
theorem OpA.map {sz : Nat} {α β : Type} {pv : α → List PV} {ok : α → Prop} {pv' : β → List PV} {ok' : β → Prop} (h : OpA P T sz w pv ok) (f : α → β) (hf : ∀ x, pv' (f x) = pv x) (hok : ∀ x, ok x → ok' (f x)) : OpA P T sz w pv' ok' := by
 obtain ⟨γ, enc, okb, g, h1, h2⟩ := h
 exact ⟨γ, enc, okb, fun y => f (g y), h1, fun y hy => by obtain ⟨a, b, c, d⟩ := h2 y hy; exact ⟨hok _ a, by rw [hf]; exact b, c, by rw [hf]; exact d⟩⟩
theorem OpA.slice {E sz bts : Nat} {α : Type} {pv : α → List PV} {ok : α → Prop} (hT : P.underlying T = some (.slice E)) (hc : P.cellsOf E = sz) (hsz : 0 < sz) (hby : P.bytesOf E = bts) (hE : OpA P E sz w pv ok) :
 OpA P T 1 w (fun xs : List α => [.sl sz (xs.map pv)]) (fun xs => (∀ x ∈ xs, ok x) ∧ xs.length * bts ≤ 140737488351232 ∧ xs.length ≤ 9223372036854775807) := by
 obtain ⟨γ, enc, okb, g, h1, h2⟩ := hE
 refine ⟨_, _, _, fun s => s.xs.map g, Opens.slice hT hc hsz hby h1, fun s hs => ⟨⟨?_, ?_, ?_⟩, rfl, rfl, ?_⟩⟩
 ·intro x hx
  obtain ⟨y, hy, rfl⟩ := List.mem_map.1 hx
  exact (h2 y (hs.each y hy).1).1
 ·have := hs.reach
  have h3 : s.xs.length * bts ≤ s.c * bts := Nat.mul_le_mul_right _ hs.cap
  simp only [List.length_map]; omega
 ·have h3 := hs.cap; have h4 := hs.max; unfold maxLen at h4; simp only [List.length_map]; omega
 ·refine .cons ?_ .nil
  have := rel_sl (pv := fun y => pv (g y)) hs fun y hy ho => by
   obtain ⟨_, a, b, d⟩ := h2 y ho
   exact ⟨a, d⟩
  simpa [List.map_map, Function.comp_def] using this
def OpAF (P : Program) (w : World) (fs : List Field) (o sz : Nat) {α : Type} (pv : α → List PV) (ok : α → Prop) : Prop :=
 ∃ (β : Type) (enc : β → List Value) (okb : β → Prop) (f : β → α), OpensF P w fs o sz enc okb ∧ ∀ y, okb y → ok (f y) ∧ (pv (f y)).length = sz ∧ (enc y).length = sz ∧ RelCs w (pv (f y)) (enc y)
theorem OpAF.nil {o : Nat} : OpAF P w [] o 0 (fun _ : Unit => []) (fun _ => True) :=
 ⟨_, _, _, id, OpensF.nil, fun y hy => ⟨trivial, rfl, rfl, .nil⟩⟩
theorem OpAF.cons {f : Field} {fs : List Field} {o n sz : Nat} {α β : Type} {pv : α → List PV} {ok : α → Prop} {pv' : β → List PV} {ok' : β → Prop}
 (ho : f.offset = o) (hn : P.cellsOf f.type = n) (h : OpA P f.type n w pv ok) (h' : OpAF P w fs (o + n) sz pv' ok') :
 OpAF P w (f :: fs) o (n + sz) (fun x : α × β => pv x.1 ++ pv' x.2) (fun x => ok x.1 ∧ ok' x.2) := by
 obtain ⟨γ, enc, okb, g, h1, h2⟩ := h
 obtain ⟨γ', enc', okb', g', h1', h2'⟩ := h'
 refine ⟨_, _, _, fun y => (g y.1, g' y.2), OpensF.cons ho hn h1 h1', fun y hy => ?_⟩
 obtain ⟨a, b, c, d⟩ := h2 y.1 hy.1
 obtain ⟨a', b', c', d'⟩ := h2' y.2 hy.2
 exact ⟨⟨a, a'⟩, by simp [b, b'], by simp [c, c'], .append (by rw [b, c]) d d'⟩
theorem OpA.struct {sz : Nat} {fs : Array Field} {α : Type} {pv : α → List PV} {ok : α → Prop} (hT : P.underlying T = some (.struct fs)) (hc : P.cellsOf T = sz) (h : OpAF P w fs.toList 0 sz pv ok) : OpA P T sz w pv ok := by
 obtain ⟨γ, enc, okb, g, h1, h2⟩ := h
 exact ⟨γ, enc, okb, g, Opens.struct hT hc h1, h2⟩
theorem OpA.arg {sz : Nat} {α : Type} {pv : α → List PV} {ok : α → Prop} (h : OpA P T sz w pv ok) {H : Type} {eH : TypeId × Value → H} {v : Value} {d : DataW H} {p : List MemPlace}
 (hT : DataW.Trod eH P w 0 (fun _ => true) true T v d p) {ts : List TypeId} {ds : List (DataW H)} (hz : (DataW.weightsEach P ts ds).all (· ≤ reachBytes) = true) (j : Nat) (h1 : ts[j]? = some T) (h2 : ds[j]? = some d) : ∃ x : α, ok x ∧ (pv x).length = v.cells.toList.length ∧ RelCs w (pv x) v.cells.toList := by
 obtain ⟨γ, enc, okb, g, k1, k2⟩ := h
 obtain ⟨y, hy, ho⟩ := Opens.arg k1 hT hz j h1 h2
 obtain ⟨a, b, c, e⟩ := k2 y ho
 exact ⟨g y, a, by rw [hy, b, c], by rw [hy]; exact e⟩
theorem rel_one {p : PV} {v : Value} (hv : v.cells = #[v]) (hr : RelCs w [p] v.cells.toList) : RelA (· < 0) w (· < w.heap.size) (fun _ => none) (.c p) v :=
 relA_c (hr 0 p v rfl (by rw [hv]; rfl))
theorem relL_of_cs {U : Nat → Prop} {β : Nat → Option Bind} : ∀ {ps : List PV} {cs : List Value}, ps.length = cs.length → RelCs w ps cs → RelL U w (· < w.heap.size) β (ps.map .c) cs
 | [], [], _, _ => relL_nil
 | [], _ :: _, h, _ => by simp at h
 | _ :: _, [], h, _ => by simp at h
 | p :: ps, c :: cs, h, hr => by
  rw [List.map_cons]
  exact relL_cons (relA_c (hr 0 p c rfl rfl)) (relL_of_cs (by simpa using h) fun j q v h1 h2 => hr (j + 1) q v (by simpa using h1) (by simpa using h2))
theorem rel_agg {ps : List PV} {v : Value} {cs : List Value} (hv : v = .agg cs.toArray) (hl : ps.length = v.cells.toList.length) (hr : RelCs w ps v.cells.toList) : RelA (· < 0) w (· < w.heap.size) (fun _ => none) (.agg (ps.map .c)) v := by
 subst hv
 have e : (Value.agg cs.toArray).cells.toList = cs := rfl
 rw [e] at hl hr
 refine relA_agg (relL_of_cs hl hr) fun x hx => ?_
 obtain ⟨j, hj, rfl⟩ := List.getElem_of_mem hx
 exact (hr j ps[j] cs[j] (by simp) (by simp)).one
theorem one_slice {base e : Nat} {v : Value} (ht : P.underlying T = some (.slice e)) (h : Value.okWide P w .any base T v) : v.cells = #[v] := by obtain ⟨a, l, c, rfl⟩ := okWide_slice ht h; rfl
theorem one_int {base : Nat} {k : IntKind} {v : Value} (ht : P.underlying T = some (.int k)) (h : Value.okWide P w .any base T v) : v.cells = #[v] := by obtain ⟨n, rfl⟩ := okWide_int ht h; rfl
end
end Go.Proofs.YthiddmncjafklaaGreat
