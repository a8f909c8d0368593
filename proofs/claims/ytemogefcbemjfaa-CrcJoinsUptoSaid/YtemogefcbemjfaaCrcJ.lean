/- Package crc: Join. -/
import Derived.Test.YtemogefcbemjfaaCrcT
namespace Go.Proofs.Ytemogefcbemjfaa
open Go.RowKit
theorem csk_zero_take (i : Nat) (h : i < 32) : tk (2 ^ i) 0 = csk 8 (2 ^ i) := by unfold tk; rw [Nat.xor_zero]
theorem mx_double (e : Nat) : mxCells (fun x => csk e (csk e x)) = mxCells (csk (2 * e)) := by
  unfold mxCells
  apply List.map_congr_left
  intro i _
  rw [show 2 * e = e + e from by omega, csk_add]
set_option maxRecDepth 20000 in
set_option maxHeartbeats 2000000 in
theorem join_any (a b : Nat) (n : Nat) (w : World) (ha : a < 4294967296) (hb : b < 4294967296) (hn : n ≤ 2147483647) :
    Calls Try.prog 28 #[.int .u32 a, .int .u32 b, .int .i64 n] w fun e w' => e = .returned (.tuple #[.int .u32 (csk (8 * n) a ^^^ b : Nat), .int .i64 0]) ∧ Below w.heap.size w w' := by
  obtain ⟨R, hR⟩ : ∃ R, R = csk (8 * n) a := ⟨_, rfl⟩
  rw [← hR]
  have HRR := PLift.up hR
  have hRl : R < 4294967296 := by rw [hR]; exact csk_lt _ _ ha
  have hx := x32 R b hRl hb
  have HX := PLift.up hx
  clear hR hx
  have dn1 : decide ((n : Int) < 0) = false := by simp
  have dn2 : decide ((2147483647 : Int) < (n : Int)) = false := by simp; omega
  have dn3 : decide (2147483647 < n) = false := by simp; omega
  go_enter Try.func28, Try.ntmps28
  go_wp2_with fail
  generalize hw0 : (World.alloc w _) = w0
  have Z : PLift (w0.heap[w.heap.size]? = some (.cells (part (csk 8) 0).toArray 112 (0, 0)) ∧ Below w.heap.size w w0) := PLift.up (by
    rw [part_zero, ← hw0]
    exact ⟨heap_alloc_new _ _, below_lit _ _⟩)
  clear hw0
  go_loopw [16] (fun iv wr => ∃ k : Nat, k ≤ 32 ∧ iv = .int .i64 k ∧ Hid (wr.heap[w.heap.size]? = some (.cells (part (csk 8) k).toArray 112 (0, 0)) ∧ Below w.heap.size w wr)) (fun iv _ => 32 - (intOf iv).toNat)
  case atStart => exact ⟨0, by omega, rfl, Z.down⟩
  case round =>
    clear Z
    obtain ⟨k, hk, rfl, hI⟩ := hrel
    by_cases h32 : k < 32
    · have hp32 := pow_lt32 k h32
      have T := PLift.up (fun w => take_any (2 ^ k) 0 w hp32 (by decide))
      rw [csk_zero_take k h32] at T
      have hu : ∃ u, wr.cell? ⟨w.heap.size, k, none⟩ = some u := by
        rw [cell_of_row wr _ k _ _ _ hI.out.1]
        have := part_len (csk 8) k
        exact ⟨_, Array.getElem?_eq_getElem (by simp; omega)⟩
      obtain ⟨u, hu⟩ := hu
      have hz := frozen_of_row wr _ k _ _ hI.out.1
      have ST : PLift ((wr.setCell ⟨w.heap.size, k, none⟩ (.int .u32 (csk 8 (2 ^ k) : Nat))).heap[w.heap.size]? = some (.cells (part (csk 8) (k + 1)).toArray 112 (0, 0)) ∧ Below w.heap.size w (wr.setCell ⟨w.heap.size, k, none⟩ (.int .u32 (csk 8 (2 ^ k) : Nat)))) := PLift.up (by
        refine ⟨?_, hI.out.2.setCell (p := ⟨_, _, none⟩) (by simp) _⟩
        have := heap_setCell_same wr _ k _ _ (.int .u32 (csk 8 (2 ^ k) : Nat)) hI.out.1
        rw [List.setIfInBounds_toArray, part_set (csk 8) k h32] at this; exact this)
      generalize csk 8 (2 ^ k) = y at *
      have k0 : (0 : Int) ≤ (k : Int) := by omega
      have k1 : (k : Int) < 32 := by omega
      clear hI
      have he : ((2 : Int) ^ k % 4294967296) = ((2 ^ k : Nat) : Int) := by
        have h2 : ((2 : Int) ^ k) = ((2 ^ k : Nat) : Int) := by simp
        have hq : ∀ q : Nat, q < 4294967296 → ((q : Int) % 4294967296) = q := fun q h => by omega
        rw [h2]; exact hq _ hp32
      have HE := PLift.up he
      clear he
      go_wp2_with fail
      rw [HE.down]
      refine (T.down _).mono ?_
      rintro e w1 ⟨rfl, rfl⟩
      go_wp2_with fail
      go_roundw
      case rel => exact ⟨k + 1, by omega, by go_num, ST.down⟩
      case measure => simp [intOf]; omega
    · obtain rfl : k = 32 := by omega
      have h1 := hI.out.1
      rw [part_all] at h1
      have H1 := PLift.up h1
      have HB := PLift.up hI.out.2
      clear hI h1
      rw [show (((32 : Nat)) : Int) = (32 : Int) from rfl]
      go_wp2_with fail
      go_loopw [0, 2] (fun av nv wq => ∃ (x m : Nat), av = .int .u32 x ∧ nv = .int .i64 m ∧ x < 4294967296 ∧ m ≤ 2147483647 ∧ Hid (∃ e, MatAt wq w.heap.size (csk e) ∧ csk (e * m) x = R ∧ Below w.heap.size w wq)) (fun _ nv _ => (intOf nv).toNat)
      case atStart => exact ⟨a, n, rfl, rfl, ha, hn, 8, H1.down, HRR.down.symm, HB.down⟩
      case round =>
        clear H1 HB HRR dn1 dn2 dn3
        obtain ⟨x, m, rfl, rfl, hx, hm, hI⟩ := hrel
        obtain ⟨wo, rfl⟩ : ∃ wo : World, wo = wr := ⟨_, rfl⟩
        by_cases h0 : m = 0
        · subst h0
          obtain ⟨e, h1, h2, h3⟩ := hI.out
          rw [Nat.mul_zero] at h2
          obtain rfl : x = R := h2
          have HB := PLift.up h3
          clear hI h1 h3
          have hxx := HX.down
          go_wp2_with fail
          go_returns
          exact ⟨rfl, HB.down⟩
        · obtain ⟨e, hmt, heq, hbl⟩ := hI.out
          have hlin := csk_lin e
          have SQ := PLift.up (squared_any w.heap.size (csk e) hlin)
          have TM := PLift.up (times_any' w.heap.size (csk e) hlin x hx)
          have hmod : bits .and .i64 (m : Int) 1 = ((m % 2 : Nat) : Int) := by
            have := i64_and_nat m 1 (by omega) (by decide)
            rw [Nat.and_one_is_mod] at this; exact this
          have hxl := hlin.lt x hx
          have HM := PLift.up hmt
          have HQ := PLift.up heq
          have HB := PLift.up hbl
          clear hI hmt heq hbl hlin
          rcases Nat.mod_two_eq_zero_or_one m with hm0 | hm1
          · rw [hm0] at hmod
            have HM0 := PLift.up hm0
            clear hm0
            · go_wp2_with fail
              refine (SQ.down _ HM.down).mono ?_
              rintro e' w1 ⟨rfl, hb1⟩
              have hz1 : w.heap.size < w1.heap.size := by
                have h1 := HB.down.size; have h2 := hb1.size
                have := (Array.getElem?_eq_some_iff.1 HM.down).1; omega
              have HM1 : PLift (MatAt w1 w.heap.size (csk e)) := PLift.up (HM.down.below hb1 (by have := (Array.getElem?_eq_some_iff.1 HM.down).1; omega))
              have HB1 : PLift (Below w.heap.size w w1) := PLift.up (HB.down.trans (hb1.mono HB.down.size))
              have S1 := PLift.up (fun (ops : Array Oper) (rest : List Oper) (o : Oper) (a : Act) (Q : Exit → Act → World → Prop) (hgd : o.guard = none) (x y : Operand) (ho : o.op = .store 112 x y) (hx : a.eval x = .pointer (some ⟨w.heap.size, 0, none⟩)) (hy : a.eval y = .agg (mxCells (csk (2 * e))).toArray) (h : ∀ w2 : World, MatAt w2 w.heap.size (csk (2 * e)) ∧ Below w.heap.size w w2 → wpList Try.prog ops Q rest (a.put o.dst undef) w2) => wpList_store_mid (P := Try.prog) (w := w1) hgd _ x y ho w.heap.size 0 (mxCells (csk (2 * e))).toArray hx hy (by have := there_block _ _ _ _ HM1.down; rw [mxCells_len] at this; rw [mxCells_size]; exact this) (by rw [mxCells_size]; kernel_rfl) (all_oneCell_toArray (mxCells_one _)) (h (w1.setCells w.heap.size 0 (mxCells (csk (2 * e)))) ⟨setCells_whole _ _ _ (mxCells (csk e)) w1 (by rw [mxCells_len, mxCells_len]) HM1.down, HB1.down.trans (setCells_below _ _ _ _ (Nat.le_refl _) 0)⟩))
              rw [mx_double]
              generalize (mxCells (csk (2 * e))).toArray = CS at *
              clear hb1
              go_wp2_with (refine S1.down _ _ _ _ _ rfl _ _ rfl rfl rfl (fun w2 hw2 => ?_); have HW := PLift.up hw2; clear hw2)
              go_roundw
              case rel =>
                refine ⟨x, m / 2, rfl, by simp, hx, by omega, 2 * e, HW.down.1, ?_, HW.down.2⟩
                have := HQ.down
                rw [show e * m = 2 * e * (m / 2) from by
                  have hm2 : m = 2 * (m / 2) := by have := HM0.down; omega
                  conv => lhs; rw [hm2]
                  rw [Nat.mul_comm 2 e, Nat.mul_assoc]] at this
                exact this
              case measure => simp [intOf]; omega
          · rw [hm1] at hmod
            have HM0 := PLift.up hm1
            clear hm1
            · go_wp2_with fail
              refine (TM.down _ HM.down).mono ?_
              rintro e' w1 ⟨rfl, rfl⟩
              go_wp2_with fail
              refine (SQ.down _ HM.down).mono ?_
              rintro e' w1 ⟨rfl, hb1⟩
              have hz1 : w.heap.size < w1.heap.size := by
                have h1 := HB.down.size; have h2 := hb1.size
                have := (Array.getElem?_eq_some_iff.1 HM.down).1; omega
              have HM1 : PLift (MatAt w1 w.heap.size (csk e)) := PLift.up (HM.down.below hb1 (by have := (Array.getElem?_eq_some_iff.1 HM.down).1; omega))
              have HB1 : PLift (Below w.heap.size w w1) := PLift.up (HB.down.trans (hb1.mono HB.down.size))
              have S1 := PLift.up (fun (ops : Array Oper) (rest : List Oper) (o : Oper) (a : Act) (Q : Exit → Act → World → Prop) (hgd : o.guard = none) (x y : Operand) (ho : o.op = .store 112 x y) (hx : a.eval x = .pointer (some ⟨w.heap.size, 0, none⟩)) (hy : a.eval y = .agg (mxCells (csk (2 * e))).toArray) (h : ∀ w2 : World, MatAt w2 w.heap.size (csk (2 * e)) ∧ Below w.heap.size w w2 → wpList Try.prog ops Q rest (a.put o.dst undef) w2) => wpList_store_mid (P := Try.prog) (w := w1) hgd _ x y ho w.heap.size 0 (mxCells (csk (2 * e))).toArray hx hy (by have := there_block _ _ _ _ HM1.down; rw [mxCells_len] at this; rw [mxCells_size]; exact this) (by rw [mxCells_size]; kernel_rfl) (all_oneCell_toArray (mxCells_one _)) (h (w1.setCells w.heap.size 0 (mxCells (csk (2 * e)))) ⟨setCells_whole _ _ _ (mxCells (csk e)) w1 (by rw [mxCells_len, mxCells_len]) HM1.down, HB1.down.trans (setCells_below _ _ _ _ (Nat.le_refl _) 0)⟩))
              rw [mx_double]
              generalize (mxCells (csk (2 * e))).toArray = CS at *
              clear hb1
              go_wp2_with (refine S1.down _ _ _ _ _ rfl _ _ rfl rfl rfl (fun w2 hw2 => ?_); have HW := PLift.up hw2; clear hw2)
              go_roundw
              case rel =>
                refine ⟨csk e x, m / 2, rfl, by simp, hxl, by omega, 2 * e, HW.down.1, ?_, HW.down.2⟩
                have := HQ.down
                rw [show e * m = 2 * e * (m / 2) + e from by
                  have hm2 : m = 2 * (m / 2) + 1 := by have := HM0.down; omega
                  conv => lhs; rw [hm2]
                  rw [Nat.mul_add, Nat.mul_one, Nat.mul_comm 2 e, Nat.mul_assoc], csk_add] at this
                exact this
              case measure => simp [intOf]; omega
end Go.Proofs.Ytemogefcbemjfaa
