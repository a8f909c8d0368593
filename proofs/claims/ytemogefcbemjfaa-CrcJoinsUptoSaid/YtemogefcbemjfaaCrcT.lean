/- Package crc: a matrix applied, squared. -/
import Derived.Test.YtemogefcbemjfaaCrcL
import Derived.Laws.Rows
import Derived.Deep.MidRow
namespace Go.Proofs.Ytemogefcbemjfaa
open Go.RowKit
/-- The block of a matrix. -/
def mxCells (f : Nat → Nat) : List Value := (List.range 32).map fun i => .int .u32 (f (2 ^ i) : Nat)
def MatAt (w : World) (b : Nat) (f : Nat → Nat) : Prop := w.heap[b]? = some (.cells (mxCells f).toArray 112 (0, 0))
theorem MatAt.cell {w : World} {b : Nat} {f : Nat → Nat} (h : MatAt w b f) (i : Nat) (hi : i < 32) : w.cell? ⟨b, i, none⟩ = some (.int .u32 (f (2 ^ i) : Nat)) := by
  rw [cell_of_row w b i _ _ _ h]
  simp [mxCells, hi]
theorem MatAt.below {w w' : World} {b B : Nat} {f : Nat → Nat} (h : MatAt w b f) (hb : Below B w w') (hlt : b < B) : MatAt w' b f := (hb.block b hlt).trans h
theorem pow_lt32 (i : Nat) (h : i < 32) : 2 ^ i < 4294967296 := Nat.lt_of_le_of_lt (Nat.pow_le_pow_right (n := 2) (by decide) (show i ≤ 31 by omega)) (by decide)
set_option maxRecDepth 20000 in
set_option maxHeartbeats 1000000 in
theorem times_any' (b : Nat) (f : Nat → Nat) (hf : Lin f) (x : Nat) (hx : x < 4294967296) (w : World) (hm : MatAt w b f) :
    Calls Try.prog 87 #[.pointer (some ⟨b, 0, none⟩), .int .u32 x] w fun e w' => e = .returned (.int .u32 (f x : Nat)) ∧ w = w' := by
  have HM := PLift.up hm
  have HF := PLift.up hf
  clear hm hf
  go_enter Try.func87, Try.ntmps87
  go_wp2_with fail
  go_loop [1, 5, 6] (fun nv ov iv => ∃ (n out i : Nat), nv = .int .u32 n ∧ ov = .int .u32 out ∧ iv = .int .i64 i ∧ n < 4294967296 ∧ i ≤ 32 ∧ out < 4294967296 ∧ Hid (n * 2 ^ i < 4294967296 ∧ out ^^^ f (n * 2 ^ i) = f x)) (fun nv _ _ => (intOf nv).toNat)
  case atStart => exact ⟨x, 0, 0, rfl, rfl, rfl, hx, by omega, by omega, by simpa using hx, by simp⟩
  case round =>
    obtain ⟨n, out, i, rfl, rfl, rfl, hn, hi, ho, hI⟩ := hrel
    by_cases h0 : n = 0
    · subst h0
      have hz := hI.out.2
      rw [Nat.zero_mul, HF.down.zero, Nat.xor_zero] at hz
      have HZ := PLift.up hz
      clear hI hz
      go_wp2_with fail
      go_returns
      exact ⟨by rw [← HZ.down]; rfl, rfl⟩
    · have hi32 : i < 32 := by
        refine Classical.byContradiction fun h => ?_
        have h1 := hI.out.1
        have : 2 ^ 32 ≤ 2 ^ i := Nat.pow_le_pow_right (by decide) (by omega)
        have : 1 * 2 ^ i ≤ n * 2 ^ i := Nat.mul_le_mul_right _ (by omega)
        omega
      have hc := HM.down.cell i hi32
      have hlt := HF.down.lt (2 ^ i) (pow_lt32 i hi32)
      have hbit := HF.down.bit n i hI.out.1
      have hp : n / 2 * 2 ^ (i + 1) ≤ n * 2 ^ i := by
        rw [Nat.pow_succ, Nat.mul_comm (2 ^ i) 2, ← Nat.mul_assoc]; exact Nat.mul_le_mul_right _ (by omega)
      have HB : PLift (n / 2 * 2 ^ (i + 1) < 4294967296 ∧ (out ^^^ (if n % 2 = 1 then f (2 ^ i) else 0)) ^^^ f (n / 2 * 2 ^ (i + 1)) = f x) := PLift.up ⟨by have := hI.out.1; omega, by rw [Nat.xor_assoc, ← hbit]; exact hI.out.2⟩
      generalize f (2 ^ i) = c at *
      have ht := tm_eq out c n ho hlt hn
      have hol : out ^^^ (if n % 2 = 1 then c else 0) < 4294967296 := x32_lt _ _ ho (by split <;> omega)
      generalize out ^^^ (if n % 2 = 1 then c else 0) = out' at *
      have hne : ((n : Int) != 0) = true := by rw [bne_iff_ne]; omega
      have k0 : (0 : Int) ≤ (i : Int) := by omega
      have k1 : (i : Int) < 32 := by omega
      clear hI hbit hp
      go_wp2_with fail
      go_round
      case rel => exact ⟨n / 2, out', i + 1, by simp, rfl, by go_num, by omega, by omega, hol, HB.down⟩
      case measure => simp [intOf]; omega
def part (f : Nat → Nat) (k : Nat) : List Value := (List.range 32).map fun i => .int .u32 (if i < k then (f (2 ^ i) : Nat) else (0 : Nat))
theorem part_set (f : Nat → Nat) (k : Nat) (h : k < 32) : (part f k).set k (.int .u32 (f (2 ^ k) : Nat)) = part f (k + 1) := by
  apply List.ext_getElem?
  intro j
  unfold part
  by_cases hj : j < 32
  · by_cases hk : k = j
    · subst hk
      rw [List.getElem?_set_self (by simpa using hj)]
      simp [hj]
    · rw [List.getElem?_set_ne hk]
      simp only [List.getElem?_map, List.getElem?_range hj, Option.map_some, Option.some.injEq, Value.int.injEq, true_and]
      by_cases h1 : j < k
      · rw [if_pos h1, if_pos (by omega)]
      · rw [if_neg h1, if_neg (by omega)]
  · rw [List.getElem?_eq_none (by simp; omega), List.getElem?_eq_none (by simp; omega)]
theorem part_zero (f : Nat → Nat) : part f 0 = List.replicate 32 (.int .u32 0) := by simp [part]; rfl
theorem part_all (f : Nat → Nat) : part f 32 = mxCells f := by
  unfold part mxCells
  apply List.map_congr_left
  intro i hi
  rw [if_pos (by simpa using hi)]
theorem setCells_other (b : Nat) : ∀ (vs : List Value) (o : Nat) (w : World) (k : Nat), k ≠ b → (w.setCells b o vs).heap[k]? = w.heap[k]?
  | [], _, _, _, _ => rfl
  | v :: r, o, w, k, h => by
    rw [World.setCells, setCells_other b r (o + 1) _ k h, heap_setCell_other _ _ _ _ (by simpa using h)]
theorem setCells_size (b : Nat) : ∀ (vs : List Value) (o : Nat) (w : World), (w.setCells b o vs).heap.size = w.heap.size
  | [], _, _ => rfl
  | v :: r, o, w => by rw [World.setCells, setCells_size b r (o + 1)]; simp [World.setCell]
theorem setCells_block (b : Nat) (t : TypeId) : ∀ (vs olds pre post : List Value) (w : World), olds.length = vs.length → w.heap[b]? = some (.cells (pre ++ olds ++ post).toArray t (0, 0)) →
    (w.setCells b pre.length vs).heap[b]? = some (.cells (pre ++ vs ++ post).toArray t (0, 0))
  | [], olds, pre, post, w, hl, h => by
    obtain rfl : olds = [] := List.eq_nil_of_length_eq_zero (by simpa using hl)
    simpa [World.setCells] using h
  | v :: r, [], pre, post, w, hl, h => by simp at hl
  | v :: r, x :: os, pre, post, w, hl, h => by
    have h1 := heap_setCell_same w b pre.length _ _ v h
    have e : (pre ++ x :: os ++ post).toArray.setIfInBounds pre.length v = ((pre ++ [v]) ++ os ++ post).toArray := by
      rw [List.setIfInBounds_toArray]
      congr 1
      rw [List.append_assoc, List.set_append_right _ _ (Nat.le_refl _), Nat.sub_self]
      simp
    rw [e] at h1
    have := setCells_block b t r os (pre ++ [v]) post _ (by simpa using hl) h1
    rw [World.setCells]
    simpa using this
theorem setCells_whole (b : Nat) (t : TypeId) (vs olds : List Value) (w : World) (hl : olds.length = vs.length) (h : w.heap[b]? = some (.cells olds.toArray t (0, 0))) : (w.setCells b 0 vs).heap[b]? = some (.cells vs.toArray t (0, 0)) := by
  have := setCells_block b t vs olds [] [] w hl (by simpa using h)
  simpa using this
theorem setCells_below (b B : Nat) (vs : List Value) (w : World) (h : B ≤ b) : ∀ o, Below B w (w.setCells b o vs) := by
  induction vs generalizing w with
  | nil => intro o; exact Below.refl _ _
  | cons v r ih => intro o; exact ((Below.refl _ _).setCell (p := ⟨b, o, none⟩) h v).trans (ih _ (o + 1))
theorem there_block (w : World) (b : Nat) (cs : List Value) (t : TypeId) (h : w.heap[b]? = some (.cells cs.toArray t (0, 0))) : w.there b 0 cs.length := fun j hj => by
  rw [Nat.zero_add]
  exact ⟨by rw [cell_of_row w b j _ _ _ h]; simp [hj], frozen_of_row w b j _ _ h⟩
theorem part_len (f : Nat → Nat) (k : Nat) : (part f k).length = 32 := by simp [part]
theorem mxCells_len (f : Nat → Nat) : (mxCells f).length = 32 := by simp [mxCells]
theorem mxCells_size (f : Nat → Nat) : (mxCells f).toArray.size = 32 := by simp [mxCells]
theorem mxCells_one (f : Nat → Nat) : ∀ v ∈ mxCells f, v.oneCell' = true := by
  intro v hv
  obtain ⟨i, _, rfl⟩ := List.mem_map.1 hv
  rfl
set_option maxRecDepth 20000 in
set_option maxHeartbeats 1000000 in
theorem squared_any (b : Nat) (f : Nat → Nat) (hf : Lin f) (w : World) (hm : MatAt w b f) :
    Calls Try.prog 88 #[.pointer (some ⟨b, 0, none⟩)] w fun e w' => e = .returned (.agg (mxCells (fun x => f (f x))).toArray) ∧ Below w.heap.size w w' := by
  have hlt := Array.getElem?_eq_some_iff.1 hm |>.1
  obtain ⟨g, hg⟩ : ∃ g : Nat → Nat, g = fun x => f (f x) := ⟨_, rfl⟩
  rw [← hg]
  have HG : PLift (∀ x, g x = f (f x)) := PLift.up (fun x => by rw [hg])
  have HM := PLift.up hm
  have HF := PLift.up hf
  clear hm hf hg
  go_enter Try.func88, Try.ntmps88
  go_wp2_with fail
  generalize hw0 : (World.alloc (World.alloc w _) _) = w0
  have Z : PLift (w0.heap[w.heap.size + 1]? = some (.cells (part g 0).toArray 112 (0, 0)) ∧ w0.heap[w.heap.size]? = some (.cells (part g 0).toArray 112 (0, 0)) ∧ MatAt w0 b f ∧ Below w.heap.size w w0) := PLift.up (by
    rw [part_zero, ← hw0]
    refine ⟨heap_alloc2_new _ _ _, heap_alloc2_old _ _ _, ?_, (below_lit _ _).alloc (by simp) _⟩
    exact HM.down.below ((below_lit _ _).alloc (by simp) _) hlt)
  clear hw0
  go_loopw [5] (fun iv wr => ∃ k : Nat, k ≤ 32 ∧ iv = .int .i64 k ∧ Hid (wr.heap[w.heap.size + 1]? = some (.cells (part g k).toArray 112 (0, 0)) ∧ wr.heap[w.heap.size]? = some (.cells (part g 0).toArray 112 (0, 0)) ∧ MatAt wr b f ∧ Below w.heap.size w wr)) (fun iv _ => 32 - (intOf iv).toNat)
  case atStart => exact ⟨0, by omega, rfl, Z.down⟩
  case round =>
    clear Z
    obtain ⟨k, hk, rfl, hI⟩ := hrel
    by_cases h32 : k < 32
    · have hc := hI.out.2.2.1.cell k h32
      have hp32 := pow_lt32 k h32
      have T := PLift.up (times_any' b f HF.down (f (2 ^ k)) (HF.down.lt _ hp32) wr hI.out.2.2.1)
      have hgk := HG.down (2 ^ k)
      rw [← hgk] at T
      have hu : ∃ u, wr.cell? ⟨w.heap.size + 1, k, none⟩ = some u := by
        rw [cell_of_row wr _ k _ _ _ hI.out.1]
        have := part_len g k
        exact ⟨_, Array.getElem?_eq_getElem (by simp; omega)⟩
      obtain ⟨u, hu⟩ := hu
      have hz := frozen_of_row wr _ k _ _ hI.out.1
      have ST : PLift ((wr.setCell ⟨w.heap.size + 1, k, none⟩ (.int .u32 (g (2 ^ k) : Nat))).heap[w.heap.size + 1]? = some (.cells (part g (k + 1)).toArray 112 (0, 0)) ∧ (wr.setCell ⟨w.heap.size + 1, k, none⟩ (.int .u32 (g (2 ^ k) : Nat))).heap[w.heap.size]? = some (.cells (part g 0).toArray 112 (0, 0)) ∧ MatAt (wr.setCell ⟨w.heap.size + 1, k, none⟩ (.int .u32 (g (2 ^ k) : Nat))) b f ∧ Below w.heap.size w (wr.setCell ⟨w.heap.size + 1, k, none⟩ (.int .u32 (g (2 ^ k) : Nat)))) := PLift.up (by
        refine ⟨?_, ?_, ?_, hI.out.2.2.2.setCell (p := ⟨_, _, none⟩) (by simp) _⟩
        · have := heap_setCell_same wr _ k _ _ (.int .u32 (g (2 ^ k) : Nat)) hI.out.1
          rw [List.setIfInBounds_toArray, part_set g k h32] at this; exact this
        · rw [heap_setCell_other _ _ _ _ (by simp)]; exact hI.out.2.1
        · show _ = _; rw [heap_setCell_other _ _ _ _ (by simp only; omega)]; exact hI.out.2.2.1)
      generalize g (2 ^ k) = y at *
      generalize f (2 ^ k) = x at *
      have k0 : (0 : Int) ≤ (k : Int) := by omega
      have k1 : (k : Int) < 32 := by omega
      clear hI hgk
      go_wp2_with fail
      refine T.down.mono ?_
      rintro e w1 ⟨rfl, rfl⟩
      go_wp2_with fail
      go_roundw
      case rel => exact ⟨k + 1, by omega, by go_num, ST.down⟩
      case measure => simp [intOf]; omega
    · obtain rfl : k = 32 := by omega
      have h1 := hI.out.1
      rw [part_all] at h1
      have H1 := PLift.up h1
      have H2 := PLift.up hI.out.2.1
      have HB := PLift.up hI.out.2.2.2
      clear hI h1
      have L1 := PLift.up (fun (ops : Array Oper) (rest : List Oper) (o : Oper) (a : Act) (Q : Exit → Act → World → Prop) (hgd : o.guard = none) (x : Operand) (ho : o.op = .load 112 x) (hx : a.eval x = .pointer (some ⟨w.heap.size + 1, 0, none⟩)) (h : wpList Try.prog ops Q rest (a.put o.dst (.agg (mxCells g).toArray)) wr) => wpList_load_row (P := Try.prog) (w := wr) hgd _ x ho (w.heap.size + 1) hx _ _ _ _ H1.down Try.underlying112 rfl (by rw [mxCells_size]; kernel_rfl) h)
      have S1 := PLift.up (fun (ops : Array Oper) (rest : List Oper) (o : Oper) (a : Act) (Q : Exit → Act → World → Prop) (hgd : o.guard = none) (x y : Operand) (ho : o.op = .store 112 x y) (hx : a.eval x = .pointer (some ⟨w.heap.size, 0, none⟩)) (hy : a.eval y = .agg (mxCells g).toArray) (h : ∀ w2 : World, w2.heap[w.heap.size]? = some (.cells (mxCells g).toArray 112 (0, 0)) ∧ Below w.heap.size w w2 → wpList Try.prog ops Q rest (a.put o.dst undef) w2) => wpList_store_mid (P := Try.prog) (w := wr) hgd _ x y ho w.heap.size 0 (mxCells g).toArray hx hy (by have := there_block _ _ _ _ H2.down; rw [part_len] at this; rw [mxCells_size]; exact this) (by rw [mxCells_size]; kernel_rfl) (all_oneCell_toArray (mxCells_one g)) (h (wr.setCells w.heap.size 0 (mxCells g)) ⟨setCells_whole _ _ (mxCells g) (part g 0) wr (by rw [part_len, mxCells_len]) H2.down, HB.down.trans (setCells_below _ _ _ _ (Nat.le_refl _) 0)⟩))
      obtain ⟨V, hV⟩ : ∃ V, V = Value.agg (mxCells g).toArray := ⟨_, rfl⟩
      obtain ⟨CS, hCS⟩ : ∃ CS, CS = (mxCells g).toArray := ⟨_, rfl⟩
      have hsz : CS.size = 32 := by rw [hCS]; exact mxCells_size g
      rw [← hCS] at L1 S1
      have HCS := PLift.up hCS
      have HSZ := PLift.up hsz
      clear hCS hV hsz H1 H2 HB HG HM HF
      go_wp2_with (first
        | (refine L1.down _ _ _ _ _ rfl _ rfl rfl ?_)
        | (refine S1.down _ _ _ _ _ rfl _ _ rfl rfl rfl (fun w2 hw2 => ?_); have HW := PLift.up hw2; clear hw2))
      refine bodyPost_ret (v := .agg CS) ?_ rfl ⟨by rw [HCS.down], HW.down.2⟩
      exact results_cell_row Try.results88 _ _ w.heap.size 112 CS (0, 0) _ rfl HW.down.1 Try.underlying112 rfl (by rw [HSZ.down]; kernel_rfl)
end Go.Proofs.Ytemogefcbemjfaa
