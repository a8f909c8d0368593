/- Package line: the cells. -/
import Derived.Test.YtemogefcbemjfaaLineW
import Derived.Deep.Onto
namespace Go.Proofs.Ytemogefcbemjfaa
open Go.RowKit

theorem nearB_true {c : Cel} (h : nearB c = true) : -1000 ≤ c.x ∧ c.x ≤ 1000 ∧ -1000 ≤ c.y ∧ c.y ≤ 1000 := by simpa [nearB] using h
theorem nearB_i64 {c : Cel} (h : nearB c = true) : I64 c.x ∧ I64 c.y := by have := nearB_true h; simp only [I64]; omega
set_option maxHeartbeats 1000000 in
theorem apart_any (a b : Cel) (sx sy : Int) (X Y : Nat) (ha : nearB a = true) (hb : nearB b = true) (hs : (b.x - a.x).sign = sx ∧ (b.x - a.x).natAbs = X ∧ (b.y - a.y).sign = sy ∧ (b.y - a.y).natAbs = Y) (w : World) :
    Calls Try.prog 55 #[a.val, b.val] w fun e w' => e = .returned (.tuple #[.int .i64 (max X Y : Nat), .int .i64 (X + Y : Nat), .int .i64 0]) ∧ Below w.heap.size w w' := by
  have HA := PLift.up ha; have HB := PLift.up hb
  have hx := nearB_true ha
  have hy := nearB_true hb
  have hX : X ≤ 2000 := by omega
  have hY : Y ≤ 2000 := by omega
  have HS := PLift.up hs
  clear ha hb hs
  obtain ⟨ax, ay⟩ := a
  obtain ⟨bx, by'⟩ := b
  simp only [Cel.val] at *
  go_enter Try.func55, Try.ntmps55
  go_wp2_with fail
  refine (near_any ⟨ax, ay⟩ (nearB_i64 HA.down).1 (nearB_i64 HA.down).2 _).mono ?_
  rintro e w1 ⟨rfl, rfl⟩
  rw [HA.down]
  go_wp2_with fail
  refine (near_any ⟨bx, by'⟩ (nearB_i64 HB.down).1 (nearB_i64 HB.down).2 _).mono ?_
  rintro e w1 ⟨rfl, rfl⟩
  rw [HB.down]
  go_wp2_with fail
  refine (sign_any (bx - ax) (by simp only [I64]; omega) (by omega) _).mono ?_
  rintro e w1 ⟨rfl, rfl⟩
  rw [HS.down.1, HS.down.2.1]
  go_wp2_with fail
  refine (sign_any (by' - ay) (by simp only [I64]; omega) (by omega) _).mono ?_
  rintro e w1 ⟨rfl, rfl⟩
  rw [HS.down.2.2.1, HS.down.2.2.2]
  go_wp2_with fail
  all_goals (go_returns; refine ⟨?_, by go_grown⟩)
  · rw [show (max X Y : Nat) = Y from by omega]; rfl
  · rw [show (max X Y : Nat) = X from by omega]; rfl
/-- A cell in a block of its own. -/
def CelAt (w : World) (h : Nat) (c : Cel) : Prop := w.heap[h]? = some (Obj.cells #[.int .i64 c.x, .int .i64 c.y] 78)
theorem CelAt.cells {w : World} {h : Nat} {c : Cel} (H : CelAt w h c) : w.cell? ⟨h, 0, none⟩ = some (.int .i64 c.x) ∧ w.cell? ⟨h, 1, none⟩ = some (.int .i64 c.y) := by
  unfold CelAt at H
  refine ⟨?_, ?_⟩ <;> simp [World.cell?, H]
theorem CelAt.thaw {w : World} {h : Nat} {c : Cel} (H : CelAt w h c) (j : Nat) : w.frozen? ⟨h, j, none⟩ = false := by
  unfold CelAt at H
  simp [World.frozen?, H]
theorem CelAt.lt {w : World} {h : Nat} {c : Cel} (H : CelAt w h c) : h < w.heap.size := (Array.getElem?_eq_some_iff.1 H).1
theorem CelAt.new (w : World) (c : Cel) : CelAt (w.alloc (Obj.cells #[.int .i64 c.x, .int .i64 c.y] 78)) w.heap.size c := by
  show (w.heap.push _)[w.heap.size]? = _
  simp
theorem CelAt.alloc {w : World} {h : Nat} {c : Cel} (H : CelAt w h c) (o : Obj) : CelAt (w.alloc o) h c := by
  have := H.lt
  unfold CelAt at *
  show (w.heap.push _)[h]? = _
  rw [Array.getElem?_push, if_neg (by omega)]; exact H
theorem CelAt.below {w w' : World} {h B : Nat} {c : Cel} (H : CelAt w h c) (hb : Below B w w') (hh : h < B) : CelAt w' h c := (hb.block h hh).trans H
theorem CelAt.setX {w : World} {h : Nat} {c : Cel} (H : CelAt w h c) (x : Int) : CelAt (w.setCell ⟨h, 0, none⟩ (.int .i64 x)) h ⟨x, c.y⟩ := heap_setCell_same w h 0 _ _ (.int .i64 x) H
theorem CelAt.setY {w : World} {h : Nat} {c : Cel} (H : CelAt w h c) (y : Int) : CelAt (w.setCell ⟨h, 1, none⟩ (.int .i64 y)) h ⟨c.x, y⟩ := heap_setCell_same w h 1 _ _ (.int .i64 y) H
theorem own_setCell {w : World} {B e sz n : Nat} {v : Value} {xs : List Value} (H : w.ownsRow B e sz v n xs) (a : Addr) (u : Value) (ha : a.block < B) : (w.setCell a u).ownsRow B e sz v n xs := by
  refine ⟨H.1, ?_⟩
  rcases H.2 with h | ⟨g, cap, cur, h1, h2, h3, h4⟩
  · exact .inl h
  · exact .inr ⟨g, cap, cur, h1, h2, by rw [heap_setCell_other _ _ _ _ (by omega)]; exact h3, h4⟩
theorem cel_grown {w1 w2 : World} {h e sz n : Nat} {v : Value} {xs : List Value} {c : Cel} (H : CelAt w1 h c) (hg : w1.grownBy w2 v.ownBlock) (ho : w1.ownsRow (h + 1) e sz v n xs) : CelAt w2 h c :=
  (hg.block h H.lt (fun he => by have := (ho.lt h he.symm).1; omega)).trans H
theorem elT_cel : ElT Try.prog 81 78 2 16 (.agg #[.int .i64 0, .int .i64 0]) := ElT.mk' Try.underlying81 (by kernel_rfl) rfl (by decide)
theorem lpts_snoc (a : Cel) (sx sy : Int) (X Y n : Nat) : lpts a sx sy X Y (n + 1) = lpts a sx sy X Y n ++ [lpt a sx sy X Y (n + 1)] := by simp [lpts, List.range_succ]
theorem lpts_len (a : Cel) (sx sy : Int) (X Y n : Nat) : (lpts a sx sy X Y n).length = n + 1 := by simp [lpts]
theorem lpt_zero (a : Cel) (sx sy : Int) (X Y : Nat) : lpt a sx sy X Y 0 = a := by simp [lpt, lq_zero]
theorem lpt_near (a : Cel) (sx sy : Int) (X Y k : Nat) (h1 : sx = -1 ∨ sx = 0 ∨ sx = 1) (h2 : sy = -1 ∨ sy = 0 ∨ sy = 1) (hX : X ≤ 2000) (hY : Y ≤ 2000) (hk : k ≤ max X Y) (ha : nearB a = true) :
    -3000 ≤ (lpt a sx sy X Y k).x ∧ (lpt a sx sy X Y k).x ≤ 3000 ∧ -3000 ≤ (lpt a sx sy X Y k).y ∧ (lpt a sx sy X Y k).y ≤ 3000 := by
  have hn := nearB_true ha
  have key : ∀ (s : Int) (q : Nat), (s = -1 ∨ s = 0 ∨ s = 1) → q ≤ 2000 → -2000 ≤ s * q ∧ s * q ≤ 2000 := by
    intro s q hs hq
    rcases hs with rfl | rfl | rfl <;> omega
  unfold lpt
  split
  · have hq : lq X Y k ≤ 2000 := by
      rcases Nat.eq_zero_or_pos X with rfl | h
      · obtain rfl : k = 0 := by omega
        rw [lq_zero]; omega
      · have := lq_le X Y k h (by omega); omega
    have a1 := key sx k h1 (by omega)
    have a2 := key sy _ h2 hq
    simp only; omega
  · have hq : lq Y X k ≤ 2000 := by have := lq_le Y X k (by omega) (by omega); omega
    have a1 := key sx _ h1 hq
    have a2 := key sy k h2 (by omega)
    simp only; omega
theorem lpt_stepX (a : Cel) (sx sy : Int) (X Y k : Nat) (h : Y ≤ X) (h0 : 0 < X) : lpt a sx sy X Y (k + 1) = ⟨(lpt a sx sy X Y k).x + sx, if 2 * X ≤ lr X Y k + 2 * Y then (lpt a sx sy X Y k).y + sy else (lpt a sx sy X Y k).y⟩ := by
  simp only [lpt, if_pos h]
  have hs := lq_step X Y k h0 h
  have e1 : a.x + sx * ((k + 1 : Nat) : Int) = a.x + sx * k + sx := by rw [Int.natCast_add, Int.mul_add]; omega
  rw [e1]
  by_cases hc : 2 * X ≤ lr X Y k + 2 * Y
  · rw [if_pos hc, (hs.1 hc).1, Int.natCast_add, Int.mul_add]; congr 1; omega
  · rw [if_neg hc, (hs.2 (by omega)).1]
theorem lpt_stepY (a : Cel) (sx sy : Int) (X Y k : Nat) (h : X < Y) : lpt a sx sy X Y (k + 1) = ⟨if 2 * Y ≤ lr Y X k + 2 * X then (lpt a sx sy X Y k).x + sx else (lpt a sx sy X Y k).x, (lpt a sx sy X Y k).y + sy⟩ := by
  simp only [lpt, if_neg (show ¬ Y ≤ X by omega)]
  have hs := lq_step Y X k (by omega) (by omega)
  have e1 : a.y + sy * ((k + 1 : Nat) : Int) = a.y + sy * k + sy := by rw [Int.natCast_add, Int.mul_add]; omega
  rw [e1]
  by_cases hc : 2 * Y ≤ lr Y X k + 2 * X
  · rw [if_pos hc, (hs.1 hc).1, Int.natCast_add, Int.mul_add]; congr 1; omega
  · rw [if_neg hc, (hs.2 (by omega)).1]
set_option maxHeartbeats 1000000 in
set_option maxRecDepth 20000 in
theorem cellsX_any (a b : Cel) (sx sy : Int) (X Y : Nat) (ha : nearB a = true) (hb : nearB b = true) (hs : (b.x - a.x).sign = sx ∧ (b.x - a.x).natAbs = X ∧ (b.y - a.y).sign = sy ∧ (b.y - a.y).natAbs = Y) (hxy : Y ≤ X) (w : World) :
    Calls Try.prog 56 #[a.val, b.val] w fun e w' => (∃ v n, e = .returned (.tuple #[v, .int .i64 0]) ∧ w'.ownsRow w.heap.size 78 2 v n ((lpts a sx sy X Y X).flatMap Cel.enc)) ∧ Below w.heap.size w w' := by
  have HA := PLift.up ha; have HB := PLift.up hb
  have hx := nearB_true ha
  have hy := nearB_true hb
  have hX : X ≤ 2000 := by omega
  have hY : Y ≤ 2000 := by omega
  have hsx : sx = -1 ∨ sx = 0 ∨ sx = 1 := by
    have := hs.1; rcases Int.lt_trichotomy (b.x - a.x) 0 with h | h | h
    · rw [Int.sign_eq_neg_one_of_neg h] at this; omega
    · rw [h] at this; simp at this; omega
    · rw [Int.sign_eq_one_of_pos h] at this; omega
  have hsy : sy = -1 ∨ sy = 0 ∨ sy = 1 := by
    have := hs.2.2.1; rcases Int.lt_trichotomy (b.y - a.y) 0 with h | h | h
    · rw [Int.sign_eq_neg_one_of_neg h] at this; omega
    · rw [h] at this; simp at this; omega
    · rw [Int.sign_eq_one_of_pos h] at this; omega
  have hsx1 : -1 ≤ sx ∧ sx ≤ 1 := by omega
  have hsy1 : -1 ≤ sy ∧ sy ≤ 1 := by omega
  have HSX := PLift.up hsx
  have HSY := PLift.up hsy
  have HS := PLift.up hs
  have hxs := HS.down.1
  have hxn := HS.down.2.1
  have hys := HS.down.2.2.1
  have hyn := HS.down.2.2.2
  have hxi : I64 (b.x - a.x) := by simp only [I64]; omega
  have hyi : I64 (b.y - a.y) := by simp only [I64]; omega
  have hxm : b.x - a.x ≠ -9223372036854775808 := by omega
  have hym : b.y - a.y ≠ -9223372036854775808 := by omega
  have SGX := PLift.up (fun w => sign_any (b.x - a.x) hxi hxm w)
  have SGY := PLift.up (fun w => sign_any (b.y - a.y) hyi hym w)
  rw [hxs, hxn] at SGX
  rw [hys, hyn] at SGY
  have NA := PLift.up (fun w => near_any a (nearB_i64 HA.down).1 (nearB_i64 HA.down).2 w)
  have NB := PLift.up (fun w => near_any b (nearB_i64 HB.down).1 (nearB_i64 HB.down).2 w)
  rw [HA.down] at NA
  rw [HB.down] at NB
  clear ha hb hs hsx hsy hxs hxn hys hyn hxi hyi hxm hym
  have hdec : decide (X < Y) = false := by simp; omega
  have hdec2 : decide ((X : Int) < (Y : Int)) = false := by simp; omega
  simp only [Cel.val] at *
  go_enter Try.func56, Try.ntmps56
  go_wp2_with fail
  refine (NA.down _).mono ?_
  rintro e w1 ⟨rfl, rfl⟩
  go_wp2_with fail
  refine (NB.down _).mono ?_
  rintro e w1 ⟨rfl, rfl⟩
  go_wp2_with fail
  refine (SGX.down _).mono ?_
  rintro e w1 ⟨rfl, rfl⟩
  go_wp2_with fail
  refine (SGY.down _).mono ?_
  rintro e w1 ⟨rfl, rfl⟩
  go_wp2_with fail
  obtain ⟨w0, hw0⟩ : ∃ w0 : World, w0 = ((((w.alloc (Obj.cells #[.int .i64 a.x, .int .i64 a.y] 78)).alloc (Obj.cells #[.int .i64 b.x, .int .i64 b.y] 78)).alloc (Obj.cells #[.int .i64 a.x, .int .i64 a.y] 78)).alloc (Obj.cells #[.int .i64 b.x, .int .i64 b.y] 78)).alloc (Obj.cells #[.int .i64 a.x, .int .i64 a.y] 78) := ⟨_, rfl⟩
  rw [← hw0]
  have K0 : PLift (CelAt w0 w.heap.size a ∧ Below w.heap.size w w0 ∧ w0.ownsRow (w.heap.size + 1) 78 2 (.slice (some ⟨w.heap.size + 1 + 1 + 1 + 1, 0, none⟩) 1 1) 1 ((lpts a sx sy X Y 0).flatMap Cel.enc)) := by
    refine PLift.up ⟨?_, ?_, ?_⟩
    · rw [hw0]; exact ((((CelAt.new w a).alloc _).alloc _).alloc _).alloc _
    · rw [hw0]; exact ((((below_lit w _).alloc (by simp) _).alloc (by simp; omega) _).alloc (by simp; omega) _).alloc (by simp; omega) _
    · rw [hw0]
      have h := World.ownsRow_lit (base := w.heap.size + 1) (e := 78) (size := 2) ((((w.alloc (Obj.cells #[.int .i64 a.x, .int .i64 a.y] 78)).alloc (Obj.cells #[.int .i64 b.x, .int .i64 b.y] 78)).alloc (Obj.cells #[.int .i64 a.x, .int .i64 a.y] 78)).alloc (Obj.cells #[.int .i64 b.x, .int .i64 b.y] 78)) #[.int .i64 a.x, .int .i64 a.y] 1 (by simp <;> omega) (by simp [maxLen]) rfl
      have e : (lpts a sx sy X Y 0).flatMap Cel.enc = [.int .i64 a.x, .int .i64 a.y] := by simp [lpts, lpt_zero, Cel.enc]
      rw [e]; simpa using h
  clear hw0
  go_loopw [12, 13, 51] (fun v f i wr => ∃ (k : Nat) (c : Cel), k ≤ X ∧ i = .int .i64 k ∧ f = .int .i64 ((lr X Y k : Int) - X) ∧ Hid (c = lpt a sx sy X Y k ∧ CelAt wr w.heap.size c ∧ Below w.heap.size w wr ∧ wr.ownsRow (w.heap.size + 1) 78 2 v (k + 1) ((lpts a sx sy X Y k).flatMap Cel.enc))) (fun _ _ i _ => X - (intOf i).toNat)
  case atStart => exact ⟨0, a, by omega, rfl, by rw [lr_zero]; simp, (lpt_zero _ _ _ _ _).symm, K0.down.1, K0.down.2.1, K0.down.2.2⟩
  case round =>
    obtain ⟨k, c, hk, rfl, rfl, hI⟩ := hrel
    by_cases hlt : k < X
    · have hcn := lpt_near a sx sy X Y k HSX.down HSY.down hX hY (by omega) HA.down
      rw [← hI.out.1] at hcn
      have hst := lpt_stepX a sx sy X Y k hxy (by omega)
      rw [← hI.out.1] at hst
      have hq := lq_step X Y k (by omega) (by omega)
      have hrl := lr_lt X Y k (by omega)
      obtain ⟨d0, d1⟩ := hI.out.2.1.cells
      have z0 := hI.out.2.1.thaw 0
      have z1 := hI.out.2.1.thaw 1
      have hl := hI.out.2.1.lt
      have HI := PLift.up hI.out
      have HST := PLift.up hst
      have HQ := PLift.up hq
      clear hI hst hq
      generalize lr X Y k = r at *
      by_cases hc : 2 * X ≤ r + 2 * Y
      · go_wp2_with (at_builtin; refine wpApp _ rfl _ _ _ rfl (w.heap.size + 1) _ _ _ elT_cel _ (k + 1) ((lpts a sx sy X Y k).flatMap Cel.enc) rfl ((own_setCell (own_setCell HI.down.2.2.2 ⟨_, 0, none⟩ _ (Nat.lt_succ_self _)) ⟨_, 1, none⟩ _ (Nat.lt_succ_self _)).alloc _) (some ⟨wr.heap.size, 0, none⟩) 1 1 [.int .i64 (c.x + sx), .int .i64 (c.y + sy)] rfl ?_ ?_ ?_ ?_ ?_ ?_ ?_ ?_)
        · rfl
        · simp
        · intro ad had j u hu
          obtain rfl := Option.some.inj had
          match j, hu with
          | 0, hu => simp at hu; subst hu; simp [Addr.add_lit, go_sem]
          | 1, hu => simp at hu; subst hu; simp [Addr.add_lit, go_sem]
          | j + 2, hu => simp at hu
        · simp [Value.oneCell']
        · simp only [maxLen]; omega
        · omega
        · simp; omega
        · intro v' w2 hown hg _
          have hca := cel_grown (h := w.heap.size) (c := ⟨c.x + sx, c.y + sy⟩) (((HI.down.2.1.setX _).setY _).alloc _) hg ((own_setCell (own_setCell HI.down.2.2.2 ⟨_, 0, none⟩ _ (Nat.lt_succ_self _)) ⟨_, 1, none⟩ _ (Nat.lt_succ_self _)).alloc _)
          have hbb : Below w.heap.size w w2 := (((HI.down.2.2.1.setCell (p := ⟨_, 0, none⟩) (Nat.le_refl _) _).setCell (p := ⟨_, 1, none⟩) (Nat.le_refl _) _).alloc (by have := HI.down.2.2.1.size; simp; omega) _).grown hg (by simp; omega) (fun q hq => by have := (HI.down.2.2.2.lt q hq).1; omega)
          have HO := PLift.up hown
          have HC := PLift.up hca
          have HBB := PLift.up hbb
          clear hown hca hbb hg
          go_wp2_with fail
          go_roundw
          case rel =>
            refine ⟨k + 1, ⟨c.x + sx, c.y + sy⟩, by omega, by go_num, ?_, ?_, HC.down, HBB.down, ?_⟩
            · rw [(HQ.down.1 hc).2]; congr 1; omega
            · rw [HST.down, if_pos hc]
            · rw [lpts_snoc, HST.down, if_pos hc, List.flatMap_append]; exact HO.down
          case measure => simp [intOf]; omega
      · go_wp2_with (at_builtin; refine wpApp _ rfl _ _ _ rfl (w.heap.size + 1) _ _ _ elT_cel _ (k + 1) ((lpts a sx sy X Y k).flatMap Cel.enc) rfl ((own_setCell HI.down.2.2.2 ⟨_, 0, none⟩ _ (Nat.lt_succ_self _)).alloc _) (some ⟨wr.heap.size, 0, none⟩) 1 1 [.int .i64 (c.x + sx), .int .i64 (c.y)] rfl ?_ ?_ ?_ ?_ ?_ ?_ ?_ ?_)
        · rfl
        · simp
        · intro ad had j u hu
          obtain rfl := Option.some.inj had
          match j, hu with
          | 0, hu => simp at hu; subst hu; simp [Addr.add_lit, go_sem]
          | 1, hu => simp at hu; subst hu; simp [Addr.add_lit, go_sem]
          | j + 2, hu => simp at hu
        · simp [Value.oneCell']
        · simp only [maxLen]; omega
        · omega
        · simp; omega
        · intro v' w2 hown hg _
          have hca := cel_grown (h := w.heap.size) (c := ⟨c.x + sx, c.y⟩) ((HI.down.2.1.setX _).alloc _) hg ((own_setCell HI.down.2.2.2 ⟨_, 0, none⟩ _ (Nat.lt_succ_self _)).alloc _)
          have hbb : Below w.heap.size w w2 := ((HI.down.2.2.1.setCell (p := ⟨_, 0, none⟩) (Nat.le_refl _) _).alloc (by have := HI.down.2.2.1.size; simp; omega) _).grown hg (by simp; omega) (fun q hq => by have := (HI.down.2.2.2.lt q hq).1; omega)
          have HO := PLift.up hown
          have HC := PLift.up hca
          have HBB := PLift.up hbb
          clear hown hca hbb hg
          go_wp2_with fail
          go_roundw
          case rel =>
            refine ⟨k + 1, ⟨c.x + sx, c.y⟩, by omega, by go_num, ?_, ?_, HC.down, HBB.down, ?_⟩
            · rw [(HQ.down.2 (by omega)).2]; congr 1; omega
            · rw [HST.down, if_neg hc]
            · rw [lpts_snoc, HST.down, if_neg hc, List.flatMap_append]; exact HO.down
          case measure => simp [intOf]; omega
    · obtain rfl : k = X := by omega
      have HI := PLift.up hI.out
      clear hI
      go_wp2_with fail
      go_returns
      exact ⟨⟨_, _, rfl, World.ownsRow.mono HI.down.2.2.2 (Nat.le_succ _)⟩, HI.down.2.2.1⟩

set_option maxHeartbeats 1000000 in
set_option maxRecDepth 20000 in
theorem cellsY_any (a b : Cel) (sx sy : Int) (X Y : Nat) (ha : nearB a = true) (hb : nearB b = true) (hs : (b.x - a.x).sign = sx ∧ (b.x - a.x).natAbs = X ∧ (b.y - a.y).sign = sy ∧ (b.y - a.y).natAbs = Y) (hxy : X < Y) (w : World) :
    Calls Try.prog 56 #[a.val, b.val] w fun e w' => (∃ v n, e = .returned (.tuple #[v, .int .i64 0]) ∧ w'.ownsRow w.heap.size 78 2 v n ((lpts a sx sy X Y Y).flatMap Cel.enc)) ∧ Below w.heap.size w w' := by
  have HA := PLift.up ha; have HB := PLift.up hb
  have hx := nearB_true ha
  have hy := nearB_true hb
  have hX : X ≤ 2000 := by omega
  have hY : Y ≤ 2000 := by omega
  have hsx : sx = -1 ∨ sx = 0 ∨ sx = 1 := by
    have := hs.1; rcases Int.lt_trichotomy (b.x - a.x) 0 with h | h | h
    · rw [Int.sign_eq_neg_one_of_neg h] at this; omega
    · rw [h] at this; simp at this; omega
    · rw [Int.sign_eq_one_of_pos h] at this; omega
  have hsy : sy = -1 ∨ sy = 0 ∨ sy = 1 := by
    have := hs.2.2.1; rcases Int.lt_trichotomy (b.y - a.y) 0 with h | h | h
    · rw [Int.sign_eq_neg_one_of_neg h] at this; omega
    · rw [h] at this; simp at this; omega
    · rw [Int.sign_eq_one_of_pos h] at this; omega
  have hsx1 : -1 ≤ sx ∧ sx ≤ 1 := by omega
  have hsy1 : -1 ≤ sy ∧ sy ≤ 1 := by omega
  have HSX := PLift.up hsx
  have HSY := PLift.up hsy
  have HS := PLift.up hs
  have hxs := HS.down.1
  have hxn := HS.down.2.1
  have hys := HS.down.2.2.1
  have hyn := HS.down.2.2.2
  have hxi : I64 (b.x - a.x) := by simp only [I64]; omega
  have hyi : I64 (b.y - a.y) := by simp only [I64]; omega
  have hxm : b.x - a.x ≠ -9223372036854775808 := by omega
  have hym : b.y - a.y ≠ -9223372036854775808 := by omega
  have SGX := PLift.up (fun w => sign_any (b.x - a.x) hxi hxm w)
  have SGY := PLift.up (fun w => sign_any (b.y - a.y) hyi hym w)
  rw [hxs, hxn] at SGX
  rw [hys, hyn] at SGY
  have NA := PLift.up (fun w => near_any a (nearB_i64 HA.down).1 (nearB_i64 HA.down).2 w)
  have NB := PLift.up (fun w => near_any b (nearB_i64 HB.down).1 (nearB_i64 HB.down).2 w)
  rw [HA.down] at NA
  rw [HB.down] at NB
  clear ha hb hs hsx hsy hxs hxn hys hyn hxi hyi hxm hym
  have hdec : decide (X < Y) = true := by simp; omega
  have hdec2 : decide ((X : Int) < (Y : Int)) = true := by simp; omega
  simp only [Cel.val] at *
  go_enter Try.func56, Try.ntmps56
  go_wp2_with fail
  refine (NA.down _).mono ?_
  rintro e w1 ⟨rfl, rfl⟩
  go_wp2_with fail
  refine (NB.down _).mono ?_
  rintro e w1 ⟨rfl, rfl⟩
  go_wp2_with fail
  refine (SGX.down _).mono ?_
  rintro e w1 ⟨rfl, rfl⟩
  go_wp2_with fail
  refine (SGY.down _).mono ?_
  rintro e w1 ⟨rfl, rfl⟩
  go_wp2_with fail
  obtain ⟨w0, hw0⟩ : ∃ w0 : World, w0 = ((((w.alloc (Obj.cells #[.int .i64 a.x, .int .i64 a.y] 78)).alloc (Obj.cells #[.int .i64 b.x, .int .i64 b.y] 78)).alloc (Obj.cells #[.int .i64 a.x, .int .i64 a.y] 78)).alloc (Obj.cells #[.int .i64 b.x, .int .i64 b.y] 78)).alloc (Obj.cells #[.int .i64 a.x, .int .i64 a.y] 78) := ⟨_, rfl⟩
  rw [← hw0]
  have K0 : PLift (CelAt w0 w.heap.size a ∧ Below w.heap.size w w0 ∧ w0.ownsRow (w.heap.size + 1) 78 2 (.slice (some ⟨w.heap.size + 1 + 1 + 1 + 1, 0, none⟩) 1 1) 1 ((lpts a sx sy X Y 0).flatMap Cel.enc)) := by
    refine PLift.up ⟨?_, ?_, ?_⟩
    · rw [hw0]; exact ((((CelAt.new w a).alloc _).alloc _).alloc _).alloc _
    · rw [hw0]; exact ((((below_lit w _).alloc (by simp) _).alloc (by simp; omega) _).alloc (by simp; omega) _).alloc (by simp; omega) _
    · rw [hw0]
      have h := World.ownsRow_lit (base := w.heap.size + 1) (e := 78) (size := 2) ((((w.alloc (Obj.cells #[.int .i64 a.x, .int .i64 a.y] 78)).alloc (Obj.cells #[.int .i64 b.x, .int .i64 b.y] 78)).alloc (Obj.cells #[.int .i64 a.x, .int .i64 a.y] 78)).alloc (Obj.cells #[.int .i64 b.x, .int .i64 b.y] 78)) #[.int .i64 a.x, .int .i64 a.y] 1 (by simp <;> omega) (by simp [maxLen]) rfl
      have e : (lpts a sx sy X Y 0).flatMap Cel.enc = [.int .i64 a.x, .int .i64 a.y] := by simp [lpts, lpt_zero, Cel.enc]
      rw [e]; simpa using h
  clear hw0
  go_loopw [12, 13, 51] (fun v f i wr => ∃ (k : Nat) (c : Cel), k ≤ Y ∧ i = .int .i64 k ∧ f = .int .i64 ((lr Y X k : Int) - Y) ∧ Hid (c = lpt a sx sy X Y k ∧ CelAt wr w.heap.size c ∧ Below w.heap.size w wr ∧ wr.ownsRow (w.heap.size + 1) 78 2 v (k + 1) ((lpts a sx sy X Y k).flatMap Cel.enc))) (fun _ _ i _ => Y - (intOf i).toNat)
  case atStart => exact ⟨0, a, by omega, rfl, by rw [lr_zero]; simp, (lpt_zero _ _ _ _ _).symm, K0.down.1, K0.down.2.1, K0.down.2.2⟩
  case round =>
    obtain ⟨k, c, hk, rfl, rfl, hI⟩ := hrel
    by_cases hlt : k < Y
    · have hcn := lpt_near a sx sy X Y k HSX.down HSY.down hX hY (by omega) HA.down
      rw [← hI.out.1] at hcn
      have hst := lpt_stepY a sx sy X Y k hxy
      rw [← hI.out.1] at hst
      have hq := lq_step Y X k (by omega) (by omega)
      have hrl := lr_lt Y X k (by omega)
      obtain ⟨d0, d1⟩ := hI.out.2.1.cells
      have z0 := hI.out.2.1.thaw 0
      have z1 := hI.out.2.1.thaw 1
      have hl := hI.out.2.1.lt
      have HI := PLift.up hI.out
      have HST := PLift.up hst
      have HQ := PLift.up hq
      clear hI hst hq
      generalize lr Y X k = r at *
      by_cases hc : 2 * Y ≤ r + 2 * X
      · go_wp2_with (at_builtin; refine wpApp _ rfl _ _ _ rfl (w.heap.size + 1) _ _ _ elT_cel _ (k + 1) ((lpts a sx sy X Y k).flatMap Cel.enc) rfl ((own_setCell (own_setCell HI.down.2.2.2 ⟨_, 0, none⟩ _ (Nat.lt_succ_self _)) ⟨_, 1, none⟩ _ (Nat.lt_succ_self _)).alloc _) (some ⟨wr.heap.size, 0, none⟩) 1 1 [.int .i64 (c.x + sx), .int .i64 (c.y + sy)] rfl ?_ ?_ ?_ ?_ ?_ ?_ ?_ ?_)
        · rfl
        · simp
        · intro ad had j u hu
          obtain rfl := Option.some.inj had
          match j, hu with
          | 0, hu => simp at hu; subst hu; simp [Addr.add_lit, go_sem]
          | 1, hu => simp at hu; subst hu; simp [Addr.add_lit, go_sem]
          | j + 2, hu => simp at hu
        · simp [Value.oneCell']
        · simp only [maxLen]; omega
        · omega
        · simp; omega
        · intro v' w2 hown hg _
          have hca := cel_grown (h := w.heap.size) (c := ⟨c.x + sx, c.y + sy⟩) (((HI.down.2.1.setX _).setY _).alloc _) hg ((own_setCell (own_setCell HI.down.2.2.2 ⟨_, 0, none⟩ _ (Nat.lt_succ_self _)) ⟨_, 1, none⟩ _ (Nat.lt_succ_self _)).alloc _)
          have hbb : Below w.heap.size w w2 := (((HI.down.2.2.1.setCell (p := ⟨_, 0, none⟩) (Nat.le_refl _) _).setCell (p := ⟨_, 1, none⟩) (Nat.le_refl _) _).alloc (by have := HI.down.2.2.1.size; simp; omega) _).grown hg (by simp; omega) (fun q hq => by have := (HI.down.2.2.2.lt q hq).1; omega)
          have HO := PLift.up hown
          have HC := PLift.up hca
          have HBB := PLift.up hbb
          clear hown hca hbb hg
          go_wp2_with fail
          go_roundw
          case rel =>
            refine ⟨k + 1, ⟨c.x + sx, c.y + sy⟩, by omega, by go_num, ?_, ?_, HC.down, HBB.down, ?_⟩
            · rw [(HQ.down.1 hc).2]; congr 1; omega
            · rw [HST.down, if_pos hc]
            · rw [lpts_snoc, HST.down, if_pos hc, List.flatMap_append]; exact HO.down
          case measure => simp [intOf]; omega
      · go_wp2_with (at_builtin; refine wpApp _ rfl _ _ _ rfl (w.heap.size + 1) _ _ _ elT_cel _ (k + 1) ((lpts a sx sy X Y k).flatMap Cel.enc) rfl ((own_setCell HI.down.2.2.2 ⟨_, 1, none⟩ _ (Nat.lt_succ_self _)).alloc _) (some ⟨wr.heap.size, 0, none⟩) 1 1 [.int .i64 (c.x), .int .i64 (c.y + sy)] rfl ?_ ?_ ?_ ?_ ?_ ?_ ?_ ?_)
        · rfl
        · simp
        · intro ad had j u hu
          obtain rfl := Option.some.inj had
          match j, hu with
          | 0, hu => simp at hu; subst hu; simp [Addr.add_lit, go_sem]
          | 1, hu => simp at hu; subst hu; simp [Addr.add_lit, go_sem]
          | j + 2, hu => simp at hu
        · simp [Value.oneCell']
        · simp only [maxLen]; omega
        · omega
        · simp; omega
        · intro v' w2 hown hg _
          have hca := cel_grown (h := w.heap.size) (c := ⟨c.x, c.y + sy⟩) ((HI.down.2.1.setY _).alloc _) hg ((own_setCell HI.down.2.2.2 ⟨_, 1, none⟩ _ (Nat.lt_succ_self _)).alloc _)
          have hbb : Below w.heap.size w w2 := ((HI.down.2.2.1.setCell (p := ⟨_, 1, none⟩) (Nat.le_refl _) _).alloc (by have := HI.down.2.2.1.size; simp; omega) _).grown hg (by simp; omega) (fun q hq => by have := (HI.down.2.2.2.lt q hq).1; omega)
          have HO := PLift.up hown
          have HC := PLift.up hca
          have HBB := PLift.up hbb
          clear hown hca hbb hg
          go_wp2_with fail
          go_roundw
          case rel =>
            refine ⟨k + 1, ⟨c.x, c.y + sy⟩, by omega, by go_num, ?_, ?_, HC.down, HBB.down, ?_⟩
            · rw [(HQ.down.2 (by omega)).2]; congr 1; omega
            · rw [HST.down, if_neg hc]
            · rw [lpts_snoc, HST.down, if_neg hc, List.flatMap_append]; exact HO.down
          case measure => simp [intOf]; omega
    · obtain rfl : k = Y := by omega
      have HI := PLift.up hI.out
      clear hI
      go_wp2_with fail
      go_returns
      exact ⟨⟨_, _, rfl, World.ownsRow.mono HI.down.2.2.2 (Nat.le_succ _)⟩, HI.down.2.2.1⟩

end Go.Proofs.Ytemogefcbemjfaa
