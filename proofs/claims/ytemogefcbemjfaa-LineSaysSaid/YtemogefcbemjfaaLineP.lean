/- The reference's cells of a line. -/
import Derived.Test.YtemogefcbemjfaaLineO
namespace Go.Proofs.Ytemogefcbemjfaa
open Go.RowKit

theorem own_setNe {w : World} {B e sz n : Nat} {v : Value} {xs : List Value} (H : w.ownsRow B e sz v n xs) (a : Addr) (u : Value) (ha : v.ownBlock ≠ some a.block) : (w.setCell a u).ownsRow B e sz v n xs := by
  refine ⟨H.1, ?_⟩
  rcases H.2 with h | ⟨g, cap, cur, h1, h2, h3, h4⟩
  · exact .inl h
  · refine .inr ⟨g, cap, cur, h1, h2, ?_, h4⟩
    rw [heap_setCell_other _ _ _ _ (by intro h; apply ha; rw [h1, ← h]; rfl)]; exact h3
theorem tdiv_step (k X : Nat) (d s : Int) (hs : d.sign = s) (hn : d.natAbs = X) (hX : X ≠ 0) : ((k : Int) * d).tdiv X = s * k := by
  have e : d = s * X := by rw [← hs, ← hn]; exact (Int.sign_mul_natAbs d).symm
  rw [e, ← Int.mul_assoc, Int.mul_tdiv_cancel _ (by omega), Int.mul_comm]
theorem aside_sign (n m k : Nat) (f t s : Int) (hs : (t - f).sign = s) (hm : (t - f).natAbs = m) : ∃ s', (s' = 1 ∨ s' = -1) ∧ t = f + s' * m ∧ s' * lq n m k = s * lq n m k := by
  rcases Int.lt_trichotomy (t - f) 0 with h | h | h
  · rw [Int.sign_eq_neg_one_of_neg h] at hs; subst hs; exact ⟨-1, .inr rfl, by omega, rfl⟩
  · have h0 : m = 0 := by omega
    subst h0
    have hq : lq n 0 k = 0 := by
      unfold lq
      rcases Nat.eq_zero_or_pos n with rfl | hn
      · simp
      · rw [Nat.mul_zero, Nat.zero_add]; exact Nat.div_eq_of_lt (by omega)
    exact ⟨1, .inl rfl, by omega, by rw [hq]; simp⟩
  · rw [Int.sign_eq_one_of_pos h] at hs; subst hs; exact ⟨1, .inl rfl, by omega, rfl⟩
set_option maxRecDepth 20000 in
set_option maxHeartbeats 1000000 in
theorem lineOf_any (a b : Cel) (sx sy : Int) (X Y : Nat) (ha : nearB a = true) (hb : nearB b = true) (hs : (b.x - a.x).sign = sx ∧ (b.x - a.x).natAbs = X ∧ (b.y - a.y).sign = sy ∧ (b.y - a.y).natAbs = Y) (hm : max X Y ≤ 120) (w : World) :
    Calls Try.prog 60 #[a.val, b.val] w fun e w' => (∃ v n, e = .returned v ∧ w'.ownsRow w.heap.size 78 2 v n ((lpts a sx sy X Y (max X Y)).flatMap Cel.enc)) ∧ Below w.heap.size w w' := by
  have HA := PLift.up ha; have HB := PLift.up hb
  have hx := nearB_true ha
  have hy := nearB_true hb
  simp only [Cel.val] at *
  go_enter Try.func60, Try.ntmps60
  go_wp2_with fail
  obtain ⟨w0, hw0⟩ : ∃ w0 : World, w0 = (w.alloc (Obj.cells #[.int .i64 a.x, .int .i64 a.y] 78)).alloc (Obj.cells #[.int .i64 b.x, .int .i64 b.y] 78) := ⟨_, rfl⟩
  rw [← hw0]
  have KA : PLift (CelAt w0 w.heap.size a) := PLift.up (by rw [hw0]; exact (CelAt.new _ _).alloc _)
  have KB : PLift (CelAt w0 (w.heap.size + 1) b) := PLift.up (by rw [hw0]; simpa using CelAt.new (w.alloc (Obj.cells #[.int .i64 a.x, .int .i64 a.y] 78)) b)
  have hs0 : w0.heap.size = w.heap.size + 2 := by rw [hw0]; simp [go_sem]
  have HB0 : PLift (Below w.heap.size w w0) := PLift.up (by rw [hw0]; exact (below_lit _ _).alloc (by simp) _)
  obtain ⟨a0, a1⟩ := KA.down.cells
  obtain ⟨b0, b1⟩ := KB.down.cells
  have fx : PLift (∀ w, Calls Try.prog 58 #[.int .i64 a.x, .int .i64 b.x] w fun e w' => e = .returned (.int .i64 X) ∧ w = w') := PLift.up (fun w => by
    refine (far_any a.x b.x (by omega) (by omega) w).mono ?_
    rintro e w' ⟨rfl, rfl⟩
    exact ⟨by rw [show (a.x - b.x).natAbs = X from by omega], rfl⟩)
  have fy : PLift (∀ w, Calls Try.prog 58 #[.int .i64 a.y, .int .i64 b.y] w fun e w' => e = .returned (.int .i64 Y) ∧ w = w') := PLift.up (fun w => by
    refine (far_any a.y b.y (by omega) (by omega) w).mono ?_
    rintro e w' ⟨rfl, rfl⟩
    exact ⟨by rw [show (a.y - b.y).natAbs = Y from by omega], rfl⟩)
  clear hw0
  go_region_held3 (fun w' => w'.cell? ⟨w.heap.size, 0, none⟩ = some (.int .i64 a.x) ∧ w'.cell? ⟨w.heap.size, 1, none⟩ = some (.int .i64 a.y) ∧ w'.cell? ⟨w.heap.size + 1, 0, none⟩ = some (.int .i64 b.x) ∧ w'.cell? ⟨w.heap.size + 1, 1, none⟩ = some (.int .i64 b.y)) (go_keep)
    (first | (go_at_call_of 58 (Value.int .i64 a.x); refine (fx.down _).mono ?_; rintro e w' ⟨rfl, rfl⟩) | (go_at_call_of 58 (Value.int .i64 a.y); refine (fy.down _).mono ?_; rintro e w' ⟨rfl, rfl⟩))
  obtain ⟨w1, hw1⟩ : ∃ w1 : World, w1 = w0.drew := ⟨_, rfl⟩
  rw [← hw1]
  replace KA := PLift.up (show CelAt w1 w.heap.size a from by rw [hw1]; exact KA.down)
  replace KB := PLift.up (show CelAt w1 (w.heap.size + 1) b from by rw [hw1]; exact KB.down)
  replace hs0 : w1.heap.size = w.heap.size + 2 := by rw [hw1]; exact hs0
  replace HB0 := PLift.up (show Below w.heap.size w w1 from by rw [hw1]; exact HB0.down.drew)
  clear hw1 a0 a1 b0 b1
  obtain ⟨a0, a1⟩ := KA.down.cells
  have hl0 : w.heap.size < w1.heap.size := by omega
  go_wp2_with fail
  obtain ⟨w2, hw2⟩ : ∃ w2 : World, w2 = w1.alloc (Obj.cells #[.int .i64 a.x, .int .i64 a.y] 78) := ⟨_, rfl⟩
  rw [← hw2]
  have K2 : PLift (CelAt w2 w.heap.size a ∧ CelAt w2 (w.heap.size + 1) b ∧ Below w.heap.size w w2 ∧ w2.ownsRow (w.heap.size + 2) 78 2 (.slice (some ⟨w.heap.size + 2, 0, none⟩) 1 1) 1 ((lpts a sx sy X Y 0).flatMap Cel.enc)) := by
    refine PLift.up ⟨?_, ?_, ?_, ?_⟩
    · rw [hw2]; exact KA.down.alloc _
    · rw [hw2]; exact KB.down.alloc _
    · rw [hw2]; exact HB0.down.alloc (by omega) _
    · rw [hw2]
      have h := World.ownsRow_lit (base := w.heap.size + 2) (e := 78) (size := 2) w1 #[.int .i64 a.x, .int .i64 a.y] 1 (by omega) (by simp [maxLen]) rfl
      have e : (lpts a sx sy X Y 0).flatMap Cel.enc = [.int .i64 a.x, .int .i64 a.y] := by simp [lpts, lpt_zero, Cel.enc]
      rw [e]; rw [hs0] at h; simpa using h
  clear hw2 KA KB HB0 a0 a1 hs0 hl0
  have HSS := PLift.up hs
  have hX2 : X ≤ 120 := by omega
  have hY2 : Y ≤ 120 := by omega
  clear hs hm
  go_loopw [7, 8] (fun v i wr => ∃ (k : Nat), 1 ≤ k ∧ k ≤ max X Y + 1 ∧ i = .int .i64 k ∧ Hid (CelAt wr w.heap.size a ∧ CelAt wr (w.heap.size + 1) b ∧ Below w.heap.size w wr ∧ wr.ownsRow (w.heap.size + 2) 78 2 v k ((lpts a sx sy X Y (k - 1)).flatMap Cel.enc))) (fun _ i _ => max X Y + 1 - (intOf i).toNat)
  case atStart => exact ⟨1, by omega, by omega, rfl, K2.down.1, K2.down.2.1, K2.down.2.2.1, K2.down.2.2.2⟩
  case round =>
    obtain ⟨k, hk1, hk2, rfl, hI⟩ := hrel
    obtain ⟨a0, a1⟩ := hI.out.1.cells
    obtain ⟨b0, b1⟩ := hI.out.2.1.cells
    have hl1 := hI.out.2.1.lt
    have hl0 : w.heap.size < wr.heap.size := by omega
    by_cases hle : k ≤ max X Y
    · have HI := PLift.up hI.out
      clear hI
      by_cases hxy : Y ≤ X
      · have hmx : (if (X : Int) < (Y : Int) then (Y : Int) else (X : Int)) = X := by split <;> omega
        go_wp2_with fail
        obtain ⟨w3, hw3⟩ : ∃ w3 : World, w3 = wr.alloc (Obj.cells #[.int .i64 0, .int .i64 0] 78) := ⟨_, rfl⟩
        rw [← hw3]
        have C3 : PLift (CelAt w3 wr.heap.size ⟨0, 0⟩ ∧ CelAt w3 w.heap.size a ∧ CelAt w3 (w.heap.size + 1) b) := PLift.up (by rw [hw3]; exact ⟨CelAt.new wr ⟨0, 0⟩, HI.down.1.alloc _, HI.down.2.1.alloc _⟩)
        have W3 : PLift (Below w.heap.size w w3 ∧ w3.ownsRow (w.heap.size + 2) 78 2 u7 k ((lpts a sx sy X Y (k - 1)).flatMap Cel.enc) ∧ u7.ownBlock ≠ some wr.heap.size) := PLift.up ⟨by rw [hw3]; exact HI.down.2.2.1.alloc (by omega) _, by rw [hw3]; exact HI.down.2.2.2.alloc _, fun h => by have := (HI.down.2.2.2.lt _ h).2; omega⟩
        have hs3 : w3.heap.size = wr.heap.size + 1 := by rw [hw3]; simp [go_sem]
        clear hw3 a0 a1 b0 b1 HI
        obtain ⟨c0, c1⟩ := C3.down.1.cells
        have z0 := C3.down.1.thaw 0
        have z1 := C3.down.1.thaw 1
        obtain ⟨a0, a1⟩ := C3.down.2.1.cells
        obtain ⟨b0, b1⟩ := C3.down.2.2.cells
        have n1 : w.heap.size ≠ wr.heap.size := by omega
        have n2 : w.heap.size + 1 ≠ wr.heap.size := by omega
        have n3 : wr.heap.size ≠ w.heap.size := by omega
        have n4 : wr.heap.size ≠ w.heap.size + 1 := by omega
        have hX0 : ¬ X = 0 := by omega
        have hpr := mul_bound k (b.x - a.x) 120 2000 (by omega) (by omega)
        have hdv := tdiv_step k X (b.x - a.x) sx HSS.down.1 HSS.down.2.1 (by omega)
        have hkx : -120 ≤ sx * (k : Int) ∧ sx * (k : Int) ≤ 120 := by
          have h1 := HSS.down.1
          rcases Int.lt_trichotomy (b.x - a.x) 0 with h | h | h
          · rw [Int.sign_eq_neg_one_of_neg h] at h1; subst h1; omega
          · rw [h] at h1; simp at h1; subst h1; omega
          · rw [Int.sign_eq_one_of_pos h] at h1; subst h1; omega
        go_region_held3 (fun w' => w'.cell? ⟨w.heap.size, 0, none⟩ = some (.int .i64 a.x) ∧ w'.cell? ⟨w.heap.size + 1, 0, none⟩ = some (.int .i64 b.x)) (go_keep) (fail)
        rw [show IntKind.i64.wrap (b.x - a.x) = b.x - a.x from IntWalk.i64_in _ (by omega), show IntKind.i64.wrap (↑k * (b.x - a.x)) = ↑k * (b.x - a.x) from IntWalk.i64_in _ (by omega), hdv, show IntKind.i64.wrap (sx * (k : Int)) = sx * k from IntWalk.i64_in _ (by omega), show IntKind.i64.wrap (a.x + sx * (k : Int)) = a.x + sx * k from IntWalk.i64_in _ (by omega)]
        clear hdv
        go_wp2_with fail
        obtain ⟨s', hs1, hs2, hs3⟩ := aside_sign X Y k a.y b.y sy HSS.down.2.2.1 HSS.down.2.2.2
        refine (aside_any X Y k a.y b.y s' (by omega) hxy (by omega) hX2 hs1 hs2 (by omega) (by omega) _).mono ?_
        rintro e w' ⟨rfl, rfl⟩
        rw [hs3]
        clear hs1 hs2 hs3
        have hlk : lpt a sx sy X Y k = ⟨a.x + sx * k, a.y + sy * lq X Y k⟩ := by simp only [lpt, if_pos hxy]
        have HLK := PLift.up hlk
        clear hlk
        generalize a.x + sx * (k : Int) = px at *
        generalize a.y + sy * (lq X Y k : Int) = py at *
        have OWN : PLift (((w3.setCell ⟨wr.heap.size, 0, none⟩ (.int .i64 px)).setCell ⟨wr.heap.size, 1, none⟩ (.int .i64 py)).ownsRow (w.heap.size + 2) 78 2 u7 k ((lpts a sx sy X Y (k - 1)).flatMap Cel.enc)) := PLift.up (own_setNe (own_setNe W3.down.2.1 _ _ W3.down.2.2) _ _ W3.down.2.2)
        go_wp2_with (at_builtin; refine wpApp _ rfl _ _ _ rfl (w.heap.size + 2) _ _ _ elT_cel _ k ((lpts a sx sy X Y (k - 1)).flatMap Cel.enc) rfl ((OWN.down.alloc _).drew) (some ⟨wr.heap.size + 1, 0, none⟩) 1 1 [.int .i64 px, .int .i64 py] rfl ?_ ?_ ?_ ?_ ?_ ?_ ?_ ?_)
        · rfl
        · simp
        · intro ad had j u hu
          obtain rfl := Option.some.inj had
          match j, hu with
          | 0, hu => simp at hu; subst hu; simp [Addr.add_lit, go_sem, hs3]
          | 1, hu => simp at hu; subst hu; simp [Addr.add_lit, go_sem, hs3]
          | j + 2, hu => simp at hu
        · simp [Value.oneCell']
        · simp only [maxLen]; omega
        · omega
        · simp; omega
        · intro v' w2 hown hg _
          have hW := W3.down.1
          have hsz := hW.size
          have hbb : Below w.heap.size w w2 := ((((hW.setCell (p := ⟨_, 0, none⟩) (by simp only; omega) _).setCell (p := ⟨_, 1, none⟩) (by simp only; omega) _).alloc (by simp; omega) _).drew).grown hg (by simp; omega) (fun q hq => by have := (W3.down.2.1.lt q hq).1; omega)
          have hblk : ∀ h, h < w.heap.size + 2 → w2.heap[h]? = w3.heap[h]? := fun h hh => by
            rw [hg.block h (by simp; omega) (fun he => by have := (W3.down.2.1.lt h he.symm).1; omega)]
            show ((((w3.setCell _ _).setCell _ _).alloc _).heap)[h]? = _
            rw [Below.heap_alloc _ _ _ (by simp; omega), Below.heap_setCell _ _ _ _ (by simp only; omega), Below.heap_setCell _ _ _ _ (by simp only; omega)]
          have hca : CelAt w2 w.heap.size a := (hblk _ (by omega)).trans C3.down.2.1
          have hcb : CelAt w2 (w.heap.size + 1) b := (hblk _ (by omega)).trans C3.down.2.2
          have HO := PLift.up hown
          have HC := PLift.up (And.intro hca hcb)
          have HBB := PLift.up hbb
          clear hown hca hcb hbb hg hblk hW hsz
          go_wp2_with fail
          go_roundw
          case rel =>
            refine ⟨k + 1, by omega, by omega, by go_num, HC.down.1, HC.down.2, HBB.down, ?_⟩
            have h := HO.down
            have e : lpts a sx sy X Y (k + 1 - 1) = lpts a sx sy X Y (k - 1) ++ [⟨px, py⟩] := by
              rw [show k + 1 - 1 = (k - 1) + 1 from by omega, lpts_snoc, show k - 1 + 1 = k from by omega, HLK.down]
            rw [e, List.flatMap_append]; exact h
          case measure => simp [intOf]; omega
      · have hmx : (if (X : Int) < (Y : Int) then (Y : Int) else (X : Int)) = Y := by split <;> omega
        go_wp2_with fail
        obtain ⟨w3, hw3⟩ : ∃ w3 : World, w3 = wr.alloc (Obj.cells #[.int .i64 0, .int .i64 0] 78) := ⟨_, rfl⟩
        rw [← hw3]
        have C3 : PLift (CelAt w3 wr.heap.size ⟨0, 0⟩ ∧ CelAt w3 w.heap.size a ∧ CelAt w3 (w.heap.size + 1) b) := PLift.up (by rw [hw3]; exact ⟨CelAt.new wr ⟨0, 0⟩, HI.down.1.alloc _, HI.down.2.1.alloc _⟩)
        have W3 : PLift (Below w.heap.size w w3 ∧ w3.ownsRow (w.heap.size + 2) 78 2 u7 k ((lpts a sx sy X Y (k - 1)).flatMap Cel.enc) ∧ u7.ownBlock ≠ some wr.heap.size) := PLift.up ⟨by rw [hw3]; exact HI.down.2.2.1.alloc (by omega) _, by rw [hw3]; exact HI.down.2.2.2.alloc _, fun h => by have := (HI.down.2.2.2.lt _ h).2; omega⟩
        have hs3 : w3.heap.size = wr.heap.size + 1 := by rw [hw3]; simp [go_sem]
        clear hw3 a0 a1 b0 b1 HI
        obtain ⟨c0, c1⟩ := C3.down.1.cells
        have z0 := C3.down.1.thaw 0
        have z1 := C3.down.1.thaw 1
        obtain ⟨a0, a1⟩ := C3.down.2.1.cells
        obtain ⟨b0, b1⟩ := C3.down.2.2.cells
        have n1 : w.heap.size ≠ wr.heap.size := by omega
        have n2 : w.heap.size + 1 ≠ wr.heap.size := by omega
        have n3 : wr.heap.size ≠ w.heap.size := by omega
        have n4 : wr.heap.size ≠ w.heap.size + 1 := by omega
        have hX0 : ¬ Y = 0 := by omega
        have hpr := mul_bound k (b.y - a.y) 120 2000 (by omega) (by omega)
        have hdv := tdiv_step k Y (b.y - a.y) sy HSS.down.2.2.1 HSS.down.2.2.2 (by omega)
        have hkx : -120 ≤ sy * (k : Int) ∧ sy * (k : Int) ≤ 120 := by
          have h1 := HSS.down.2.2.1
          rcases Int.lt_trichotomy (b.y - a.y) 0 with h | h | h
          · rw [Int.sign_eq_neg_one_of_neg h] at h1; subst h1; omega
          · rw [h] at h1; simp at h1; subst h1; omega
          · rw [Int.sign_eq_one_of_pos h] at h1; subst h1; omega
        go_region_held3 (fun w' => w'.cell? ⟨w.heap.size, 1, none⟩ = some (.int .i64 a.y) ∧ w'.cell? ⟨w.heap.size + 1, 1, none⟩ = some (.int .i64 b.y)) (go_keep) (fail)
        rw [show IntKind.i64.wrap (b.y - a.y) = b.y - a.y from IntWalk.i64_in _ (by omega), show IntKind.i64.wrap (↑k * (b.y - a.y)) = ↑k * (b.y - a.y) from IntWalk.i64_in _ (by omega), hdv, show IntKind.i64.wrap (sy * (k : Int)) = sy * k from IntWalk.i64_in _ (by omega), show IntKind.i64.wrap (a.y + sy * (k : Int)) = a.y + sy * k from IntWalk.i64_in _ (by omega)]
        clear hdv
        go_wp2_with fail
        obtain ⟨s', hs1, hs2, hs3⟩ := aside_sign Y X k a.x b.x sx HSS.down.1 HSS.down.2.1
        refine (aside_any Y X k a.x b.x s' (by omega) (by omega) (by omega) hY2 hs1 hs2 (by omega) (by omega) _).mono ?_
        rintro e w' ⟨rfl, rfl⟩
        rw [hs3]
        clear hs1 hs2 hs3
        have hlk : lpt a sx sy X Y k = ⟨a.x + sx * lq Y X k, a.y + sy * k⟩ := by simp only [lpt, if_neg hxy]
        have HLK := PLift.up hlk
        clear hlk
        generalize a.y + sy * (k : Int) = py at *
        generalize a.x + sx * (lq Y X k : Int) = px at *
        have OWN : PLift (((w3.setCell ⟨wr.heap.size, 1, none⟩ (.int .i64 py)).setCell ⟨wr.heap.size, 0, none⟩ (.int .i64 px)).ownsRow (w.heap.size + 2) 78 2 u7 k ((lpts a sx sy X Y (k - 1)).flatMap Cel.enc)) := PLift.up (own_setNe (own_setNe W3.down.2.1 _ _ W3.down.2.2) _ _ W3.down.2.2)
        go_wp2_with (at_builtin; refine wpApp _ rfl _ _ _ rfl (w.heap.size + 2) _ _ _ elT_cel _ k ((lpts a sx sy X Y (k - 1)).flatMap Cel.enc) rfl ((OWN.down.alloc _).drew) (some ⟨wr.heap.size + 1, 0, none⟩) 1 1 [.int .i64 px, .int .i64 py] rfl ?_ ?_ ?_ ?_ ?_ ?_ ?_ ?_)
        · rfl
        · simp
        · intro ad had j u hu
          obtain rfl := Option.some.inj had
          match j, hu with
          | 0, hu => simp at hu; subst hu; simp [Addr.add_lit, go_sem, hs3]
          | 1, hu => simp at hu; subst hu; simp [Addr.add_lit, go_sem, hs3]
          | j + 2, hu => simp at hu
        · simp [Value.oneCell']
        · simp only [maxLen]; omega
        · omega
        · simp; omega
        · intro v' w2 hown hg _
          have hW := W3.down.1
          have hsz := hW.size
          have hbb : Below w.heap.size w w2 := ((((hW.setCell (p := ⟨_, 1, none⟩) (by simp only; omega) _).setCell (p := ⟨_, 0, none⟩) (by simp only; omega) _).alloc (by simp; omega) _).drew).grown hg (by simp; omega) (fun q hq => by have := (W3.down.2.1.lt q hq).1; omega)
          have hblk : ∀ h, h < w.heap.size + 2 → w2.heap[h]? = w3.heap[h]? := fun h hh => by
            rw [hg.block h (by simp; omega) (fun he => by have := (W3.down.2.1.lt h he.symm).1; omega)]
            show ((((w3.setCell _ _).setCell _ _).alloc _).heap)[h]? = _
            rw [Below.heap_alloc _ _ _ (by simp; omega), Below.heap_setCell _ _ _ _ (by simp only; omega), Below.heap_setCell _ _ _ _ (by simp only; omega)]
          have hca : CelAt w2 w.heap.size a := (hblk _ (by omega)).trans C3.down.2.1
          have hcb : CelAt w2 (w.heap.size + 1) b := (hblk _ (by omega)).trans C3.down.2.2
          have HO := PLift.up hown
          have HC := PLift.up (And.intro hca hcb)
          have HBB := PLift.up hbb
          clear hown hca hcb hbb hg hblk hW hsz
          go_wp2_with fail
          go_roundw
          case rel =>
            refine ⟨k + 1, by omega, by omega, by go_num, HC.down.1, HC.down.2, HBB.down, ?_⟩
            have h := HO.down
            have e : lpts a sx sy X Y (k + 1 - 1) = lpts a sx sy X Y (k - 1) ++ [⟨px, py⟩] := by
              rw [show k + 1 - 1 = (k - 1) + 1 from by omega, lpts_snoc, show k - 1 + 1 = k from by omega, HLK.down]
            rw [e, List.flatMap_append]; exact h
          case measure => simp [intOf]; omega
    · obtain rfl : k = max X Y + 1 := by omega
      have HI := PLift.up hI.out
      clear hI
      have hmx : ¬ ((max X Y + 1 : Nat) : Int) ≤ (if (X : Int) < (Y : Int) then (Y : Int) else (X : Int)) := by split <;> omega
      go_wp2_with fail
      all_goals go_returns
      all_goals exact ⟨⟨_, rfl, _, World.ownsRow.mono HI.down.2.2.2 (Nat.le_add_right _ 2)⟩, HI.down.2.2.1⟩
end Go.Proofs.Ytemogefcbemjfaa
