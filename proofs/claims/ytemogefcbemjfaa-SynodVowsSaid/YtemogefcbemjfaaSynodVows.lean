/- SynodVows. -/
import Derived.Test.YtemogefcbemjfaaSynodS
import Derived.Test.YtemogefcbemjfaaRows
import Derived.Test.YtemogefcbemjfaaChecked
import Derived.Deep.RegionHeld3
import Derived.Deep.RegionWith
namespace Go.Proofs.Ytemogefcbemjfaa
open Go.RowKit Go.ChangeShapes Go.WideShapes Go.ChangeAt
namespace synodVows

set_option maxRecDepth 100000 in
theorem opVow (w : World) : Opens Try.prog 66 3 w Vow.enc (fun _ => True) :=
  (Opens.struct Try.underlying66 (by kernel_rfl) (OpensF.cons rfl rfl (Opens.i64 Try.underlying3) (OpensF.cons rfl rfl (Opens.i64 Try.underlying3) (OpensF.cons rfl rfl (Opens.i64 Try.underlying3) OpensF.nil)))).map (fun x => ⟨x.1, x.2.1, x.2.2.1⟩) (fun _ => rfl) (fun _ _ => trivial)
set_option maxRecDepth 100000 in
theorem opVows (w : World) : Opens Try.prog 67 1 w SL.enc (SLok w w.heap.size 3 24 Vow.enc (fun _ => True)) := Opens.slice Try.underlying67 (by kernel_rfl) (by decide) (by kernel_rfl) (opVow w)
set_option maxRecDepth 100000 in
theorem opRnd (w : World) : Opens Try.prog 118 6 w Rnd.enc (fun x => x.acc < 4294967296) :=
  (Opens.struct Try.underlying118 (by kernel_rfl) (OpensF.cons rfl rfl (Opens.i64 Try.underlying3) (OpensF.cons rfl rfl (Opens.u32 Try.underlying36) (OpensF.cons rfl rfl (opVows w) (OpensF.cons rfl rfl (Opens.bool Try.underlying4) (OpensF.cons rfl rfl (Opens.i64 Try.underlying3) (OpensF.cons rfl rfl (Opens.u32 Try.underlying36) OpensF.nil))))))).map (fun x => ⟨x.1, x.2.1, x.2.2.1, x.2.2.2.1, x.2.2.2.2.1, x.2.2.2.2.2.1⟩) (fun _ => rfl) (fun _ h => h.2.2.2.2.2.1)
set_option maxRecDepth 100000 in
theorem opRnds (w : World) : Opens Try.prog 68 1 w SL.enc (SLok w w.heap.size 6 64 Rnd.enc (fun x => x.acc < 4294967296)) := Opens.slice Try.underlying68 (by kernel_rfl) (by decide) (by kernel_rfl) (opRnd w)
def cEnc (x : SL Vow × SL Rnd) : List Value := [x.1.val, x.2.val]
set_option maxRecDepth 100000 in
theorem opCouncil (w : World) : Opens Try.prog 70 2 w cEnc (fun x => SLok w w.heap.size 3 24 Vow.enc (fun _ => True) x.1 ∧ SLok w w.heap.size 6 64 Rnd.enc (fun x => x.acc < 4294967296) x.2) :=
  (Opens.struct Try.underlying70 (by kernel_rfl) (OpensF.cons rfl rfl (opVows w) (OpensF.cons rfl rfl (opRnds w) OpensF.nil))).map (fun x => (x.1, x.2.1)) (fun _ => rfl) (fun _ h => ⟨h.1, h.2.1⟩)

def C3 (w : World) (h : Nat) (p b u : Int) : Prop := w.cell? ⟨h, 0, none⟩ = some (.int .i64 p) ∧ w.cell? ⟨h, 1, none⟩ = some (.int .i64 b) ∧ w.cell? ⟨h, 2, none⟩ = some (.int .i64 u)
theorem C3.new (w : World) (p b u : Int) : C3 (w.alloc (Obj.cells #[.int .i64 p, .int .i64 b, .int .i64 u] 66)) w.heap.size p b u := by
  refine ⟨?_, ?_, ?_⟩ <;> simp [go_sem]
theorem C3.below {B : Nat} {w w' : World} {h : Nat} {p b u : Int} (H : C3 w h p b u) (hb : Below B w w') (hh : h < B) : C3 w' h p b u :=
  ⟨(hb.cell (p := ⟨h, 0, none⟩) hh).trans H.1, (hb.cell (p := ⟨h, 1, none⟩) hh).trans H.2.1, (hb.cell (p := ⟨h, 2, none⟩) hh).trans H.2.2⟩
def C2 (w : World) (h : Nat) (x y : Value) : Prop := w.cell? ⟨h, 0, none⟩ = some x ∧ w.cell? ⟨h, 1, none⟩ = some y
theorem C2.below {B : Nat} {w w' : World} {h : Nat} {x y : Value} (H : C2 w h x y) (hb : Below B w w') (hh : h < B) : C2 w' h x y :=
  ⟨(hb.cell (p := ⟨h, 0, none⟩) hh).trans H.1, (hb.cell (p := ⟨h, 1, none⟩) hh).trans H.2⟩

set_option maxRecDepth 20000 in
set_option maxHeartbeats 1000000 in
theorem walk (x0 : Vow) (n v : Int) (l : SL Vow) (c : SL Vow × SL Rnd) (w : World) (h0 : True) (h1 : -9223372036854775808 ≤ n ∧ n ≤ 9223372036854775807) (h2 : -9223372036854775808 ≤ v ∧ v ≤ 9223372036854775807) (hl : SLok w w.heap.size 3 24 Vow.enc (fun _ => True) l)
    (hc : SLok w w.heap.size 3 24 Vow.enc (fun _ => True) c.1 ∧ SLok w w.heap.size 6 64 Rnd.enc (fun x => x.acc < 4294967296) c.2) :
    Calls Try.prog 9 #[.agg (Vow.enc x0).toArray, .int .i64 n, .int .i64 v, l.val, .agg (cEnc c).toArray] w fun e w' => e = .returned (.bool true) ∧ Below w.heap.size w w' := by
  have HL := PLift.up hl
  have HC := PLift.up hc
  clear hl hc h0 h1 h2
  obtain ⟨a, cap, xs⟩ := l
  obtain ⟨⟨a1, c1, xs1⟩, ⟨a2, c2, xs2⟩⟩ := c
  obtain ⟨p, b, u⟩ := x0
  simp only [SL.val, Vow.enc, cEnc]
  obtain ⟨r1, hr1⟩ : ∃ r, r = prepR ⟨p, b, u⟩ n := ⟨_, rfl⟩
  obtain ⟨r2, hr2⟩ : ∃ r, r = accR ⟨p, b, u⟩ n v := ⟨_, rfl⟩
  have H1 := PLift.up (fun w => prep_any ⟨p, b, u⟩ n w)
  have H2 := PLift.up (fun w => vowed_any ⟨p, b, u⟩ n w)
  have H3 := PLift.up (fun w => acc_any ⟨p, b, u⟩ n v w)
  have H4 := PLift.up (fun w => took_any ⟨p, b, u⟩ n v w)
  rw [← hr1] at H1 H2
  rw [← hr2] at H3 H4
  obtain ⟨⟨p1, b1, u1⟩, ok1⟩ := r1
  obtain ⟨⟨p2, b2, u2⟩, ok2⟩ := r2
  simp only [Vow.val] at H1 H2 H3 H4
  clear hr1 hr2
  obtain ⟨r, hr⟩ : ∃ r, BestV xs v r := by
    by_cases h : xs = []
    · exact ⟨v, .inr ⟨fun i x hF => by subst h; simp [Fst] at hF, rfl⟩⟩
    · obtain ⟨i, x, hF⟩ := Fst.any xs h
      by_cases hz : x.b = 0
      · exact ⟨v, .inr ⟨fun j y hG => by rw [hG.uniq hF]; exact hz, rfl⟩⟩
      · exact ⟨x.v, .inl ⟨i, x, hF, hz, rfl⟩⟩
  by_cases hlen : xs.length ≤ 500
  · go_enter Try.func9, Try.ntmps9
    go_wp2_with fail
    obtain ⟨w0, hw0⟩ : ∃ w0 : World, w0 = (w.alloc (Obj.cells #[.int .i64 p, .int .i64 b, .int .i64 u] 66)).alloc (Obj.cells #[.slice a1 xs1.length c1, .slice a2 xs2.length c2] 70) := ⟨_, rfl⟩
    rw [← hw0]
    have K0 : PLift (C3 w0 w.heap.size p b u) := PLift.up (by rw [hw0]; refine ⟨?_, ?_, ?_⟩ <;> simp [go_sem])
    have M0 : PLift (C2 w0 (w.heap.size + 1) (.slice a1 xs1.length c1) (.slice a2 xs2.length c2)) := PLift.up (by rw [hw0]; refine ⟨?_, ?_⟩ <;> simp [go_sem])
    have hs0 : w0.heap.size = w.heap.size + 2 := by rw [hw0]; simp [go_sem]
    have HB0 : PLift (Below w.heap.size w w0) := PLift.up (by rw [hw0]; exact (below_lit _ _).alloc (by simp) _)
    have hw0s : Below w.heap.size w w0 := HB0.down
    have H5 : PLift (∀ w', Below (w.heap.size + 2) w0 w' → Calls Try.prog 51 #[.slice a xs.length cap, .int .i64 v] w' fun e w'' => e = .returned (.int .i64 r) ∧ Below w'.heap.size w' w'') := PLift.up (fun w' hb => by
      refine (choose_any a cap xs w.heap.size v w' (HL.down.els.below (hw0s.trans (hb.mono (by omega))) (Nat.le_refl _)) hlen (by have := hb.size; omega)).mono ?_
      rintro e w'' ⟨⟨r', rfl, hr'⟩, hb'⟩
      exact ⟨by rw [hr.uniq hr'], hb'⟩)
    have H6 : PLift (∀ w', Below (w.heap.size + 2) w0 w' → Calls Try.prog 52 #[.slice a xs.length cap, .int .i64 v] w' fun e w'' => e = .returned (.int .i64 r) ∧ Below w'.heap.size w' w'') := PLift.up (fun w' hb => by
      refine (bound_any a cap xs w.heap.size v w' (HL.down.els.below (hw0s.trans (hb.mono (by omega))) (Nat.le_refl _)) hlen (by have := hb.size; omega)).mono ?_
      rintro e w'' ⟨⟨r', rfl, hr'⟩, hb'⟩
      exact ⟨by rw [hr.uniq hr'], hb'⟩)
    have hm1 : xs1.length ≤ 140737488351232 := by have h1 := HC.down.1.cap; have h2 := HC.down.1.reach; simp only at h1 h2; omega
    have hm2 : xs2.length * 64 ≤ 140737488351232 := by have h1 := HC.down.2.cap; have h2 := HC.down.2.reach; simp only at h1 h2; omega
    have hys : (chs xs1.length xs2).length ≤ 9223372036854775807 := by have := chs_le xs1.length xs2; omega
    have H7 : PLift (∀ w', Below (w.heap.size + 2) w0 w' → Calls Try.prog 53 #[.agg #[.slice a1 xs1.length c1, .slice a2 xs2.length c2]] w' fun e w'' => (∃ a' c', e = .returned (.slice a' (chs xs1.length xs2).length c') ∧ Els w'' w''.heap.size a' 1 ei64 (chs xs1.length xs2)) ∧ Below w'.heap.size w' w'') := PLift.up (fun w' hb => by
      refine (chosen_any a2 c2 xs1.length c1 a1 xs2 w.heap.size w' (HC.down.2.els.below (hw0s.trans (hb.mono (by omega))) (Nat.le_refl _)) (fun x hx => (HC.down.2.each x hx).1) hm2 hm1 (by have := hb.size; omega)).mono ?_
      rintro e w'' ⟨⟨v', n', rfl, ho⟩, hb'⟩
      obtain ⟨a', c', rfl, rfl, hE, _, _⟩ := Els.ofOwn ho (fun _ _ => rfl) (by decide)
      exact ⟨⟨a', c', rfl, hE⟩, hb'⟩)
    have H8 : PLift (∀ w', Below (w.heap.size + 2) w0 w' → Calls Try.prog 54 #[.agg #[.slice a1 xs1.length c1, .slice a2 xs2.length c2]] w' fun e w'' => (∃ a' c', e = .returned (.slice a' (chs xs1.length xs2).length c') ∧ Els w'' w''.heap.size a' 1 ei64 (chs xs1.length xs2)) ∧ Below w'.heap.size w' w'') := PLift.up (fun w' hb => by
      refine (chosenOf_any a2 c2 xs1.length c1 a1 xs2 w.heap.size w' (HC.down.2.els.below (hw0s.trans (hb.mono (by omega))) (Nat.le_refl _)) (fun x hx => (HC.down.2.each x hx).1) hm2 hm1 (by have := hb.size; omega)).mono ?_
      rintro e w'' ⟨⟨v', n', rfl, ho⟩, hb'⟩
      obtain ⟨a', c', rfl, rfl, hE, _, _⟩ := Els.ofOwn ho (fun _ _ => rfl) (by decide)
      exact ⟨⟨a', c', rfl, hE⟩, hb'⟩)
    generalize hysd : chs xs1.length xs2 = ys at H7 H8 hys
    have HYS := PLift.up hys
    have HR := PLift.up hr
    clear hw0 hw0s hm1 hm2 hysd hys hr
    go_loopw [26] (fun i wr => ∃ k : Nat, k ≤ xs.length ∧ i = .int .i64 k ∧ Hid (Below (w.heap.size + 2) w0 wr)) (fun i _ => xs.length - (intOf i).toNat)
    case atStart => exact ⟨0, by omega, rfl, Below.refl _ _⟩
    case round =>
      obtain ⟨k, hk, rfl, hI⟩ := hrel
      have hsz := hI.out.size
      by_cases hlt : k < xs.length
      · have he1 := HL.down.els.below (HB0.down.trans (hI.out.mono (by omega))) (Nat.le_refl _)
        obtain ⟨g, o, e0, hb', hc⟩ := he1.get k hlt
        obtain rfl : a = _ := e0
        have q0 := hc 0 _ rfl
        have q1 := hc 1 _ rfl
        have q2 := hc 2 _ rfl
        simp only [← Nat.add_assoc, Nat.add_zero] at q0 q1 q2
        have HI := PLift.up hI.out
        clear hc he1 hI
        by_cases hneg : xs[k].b < 0
        · go_wp2_with fail
          go_returns
          exact ⟨rfl, (HB0.down.trans (HI.down.mono (by omega))).alloc (by omega) _⟩
        · go_wp2_with fail
          go_roundw
          case rel => exact ⟨k + 1, by omega, by go_num, HI.down.alloc (by omega) _⟩
          case measure => simp [intOf]; omega
      · obtain rfl : k = xs.length := by omega
        have J := PLift.up hI.out
        clear hI
        have hsv0 : w.heap.size + 1 < wr.heap.size := by omega
        clear hsz
        have J0 := J
        clear J
        obtain ⟨z0, hz0⟩ : ∃ z0 : World, z0 = wr := ⟨_, rfl⟩
        rw [← hz0] at J0 hsv0 ⊢
        clear hz0
        obtain ⟨d0, d1, d2⟩ := K0.down.below J0.down (by omega)
        go_wp2_with fail
        refine (H1.down _).mono ?_
        rintro e v1 ⟨rfl, hb1⟩
        have I1 := PLift.up (J0.down.trans (hb1.mono (by omega)))
        have hs1 : w.heap.size + 1 < v1.heap.size := by have := hb1.size; omega
        have hs1' : w.heap.size < v1.heap.size := by omega
        clear hb1 J0 d0 d1 d2
        obtain ⟨d0, d1, d2⟩ := K0.down.below I1.down (by omega)
        go_wp2_with fail
        obtain ⟨w1, hw1⟩ : ∃ w1 : World, w1 = v1.alloc (Obj.cells #[.int .i64 p1, .int .i64 b1, .int .i64 u1] 66) := ⟨_, rfl⟩
        rw [← hw1]
        have hbl1 : Below v1.heap.size v1 w1 := by rw [hw1]; exact below_lit _ _
        have A1 := PLift.up (show C3 w1 v1.heap.size p1 b1 u1 from by rw [hw1]; exact C3.new _ _ _ _)
        have J1 := PLift.up (show Below (w.heap.size + 2) w0 w1 from I1.down.trans (hbl1.mono (by omega)))
        have ht1 : v1.heap.size < w1.heap.size := by rw [hw1]; simp [go_sem]
        clear hw1 hbl1 d0 d1 d2 I1
        obtain ⟨d0, d1, d2⟩ := K0.down.below J1.down (by omega)
        go_wp2_with fail
        refine (H2.down _).mono ?_
        rintro e v2 ⟨rfl, hb2⟩
        have I2 := PLift.up (J1.down.trans (hb2.mono (by omega)))
        have hs2 : w.heap.size + 1 < v2.heap.size := by have := hb2.size; omega
        have hs2' : w.heap.size < v2.heap.size := by omega
        replace A1 := PLift.up (A1.down.below hb2 (by omega))
        have hx1 : v1.heap.size < v2.heap.size := by have := hb2.size; omega
        clear hb2 J1 d0 d1 d2
        obtain ⟨d0, d1, d2⟩ := K0.down.below I2.down (by omega)
        go_wp2_with fail
        obtain ⟨w2, hw2⟩ : ∃ w2 : World, w2 = v2.alloc (Obj.cells #[.int .i64 p1, .int .i64 b1, .int .i64 u1] 66) := ⟨_, rfl⟩
        rw [← hw2]
        have hbl2 : Below v2.heap.size v2 w2 := by rw [hw2]; exact below_lit _ _
        have A2 := PLift.up (show C3 w2 v2.heap.size p1 b1 u1 from by rw [hw2]; exact C3.new _ _ _ _)
        have J2 := PLift.up (show Below (w.heap.size + 2) w0 w2 from I2.down.trans (hbl2.mono (by omega)))
        have ht2 : v2.heap.size < w2.heap.size := by rw [hw2]; simp [go_sem]
        replace A1 := PLift.up (A1.down.below hbl2 hx1)
        replace hx1 : v1.heap.size < w2.heap.size := by omega
        clear hw2 hbl2 d0 d1 d2 I2
        obtain ⟨d0, d1, d2⟩ := K0.down.below J2.down (by omega)
        go_wp2_with fail
        refine (H3.down _).mono ?_
        rintro e v3 ⟨rfl, hb3⟩
        have I3 := PLift.up (J2.down.trans (hb3.mono (by omega)))
        have hs3 : w.heap.size + 1 < v3.heap.size := by have := hb3.size; omega
        have hs3' : w.heap.size < v3.heap.size := by omega
        replace A1 := PLift.up (A1.down.below hb3 (by omega))
        have hx1 : v1.heap.size < v3.heap.size := by have := hb3.size; omega
        replace A2 := PLift.up (A2.down.below hb3 (by omega))
        have hx2 : v2.heap.size < v3.heap.size := by have := hb3.size; omega
        clear hb3 J2 d0 d1 d2
        obtain ⟨d0, d1, d2⟩ := K0.down.below I3.down (by omega)
        go_wp2_with fail
        obtain ⟨w3, hw3⟩ : ∃ w3 : World, w3 = v3.alloc (Obj.cells #[.int .i64 p2, .int .i64 b2, .int .i64 u2] 66) := ⟨_, rfl⟩
        rw [← hw3]
        have hbl3 : Below v3.heap.size v3 w3 := by rw [hw3]; exact below_lit _ _
        have A3 := PLift.up (show C3 w3 v3.heap.size p2 b2 u2 from by rw [hw3]; exact C3.new _ _ _ _)
        have J3 := PLift.up (show Below (w.heap.size + 2) w0 w3 from I3.down.trans (hbl3.mono (by omega)))
        have ht3 : v3.heap.size < w3.heap.size := by rw [hw3]; simp [go_sem]
        replace A1 := PLift.up (A1.down.below hbl3 hx1)
        replace hx1 : v1.heap.size < w3.heap.size := by omega
        replace A2 := PLift.up (A2.down.below hbl3 hx2)
        replace hx2 : v2.heap.size < w3.heap.size := by omega
        clear hw3 hbl3 d0 d1 d2 I3
        obtain ⟨d0, d1, d2⟩ := K0.down.below J3.down (by omega)
        go_wp2_with fail
        refine (H4.down _).mono ?_
        rintro e v4 ⟨rfl, hb4⟩
        have I4 := PLift.up (J3.down.trans (hb4.mono (by omega)))
        have hs4 : w.heap.size + 1 < v4.heap.size := by have := hb4.size; omega
        have hs4' : w.heap.size < v4.heap.size := by omega
        replace A1 := PLift.up (A1.down.below hb4 (by omega))
        have hx1 : v1.heap.size < v4.heap.size := by have := hb4.size; omega
        replace A2 := PLift.up (A2.down.below hb4 (by omega))
        have hx2 : v2.heap.size < v4.heap.size := by have := hb4.size; omega
        replace A3 := PLift.up (A3.down.below hb4 (by omega))
        have hx3 : v3.heap.size < v4.heap.size := by have := hb4.size; omega
        clear hb4 J3 d0 d1 d2
        obtain ⟨d0, d1, d2⟩ := K0.down.below I4.down (by omega)
        go_wp2_with fail
        obtain ⟨w4, hw4⟩ : ∃ w4 : World, w4 = v4.alloc (Obj.cells #[.int .i64 p2, .int .i64 b2, .int .i64 u2] 66) := ⟨_, rfl⟩
        rw [← hw4]
        have hbl4 : Below v4.heap.size v4 w4 := by rw [hw4]; exact below_lit _ _
        have A4 := PLift.up (show C3 w4 v4.heap.size p2 b2 u2 from by rw [hw4]; exact C3.new _ _ _ _)
        have J4 := PLift.up (show Below (w.heap.size + 2) w0 w4 from I4.down.trans (hbl4.mono (by omega)))
        have ht4 : v4.heap.size < w4.heap.size := by rw [hw4]; simp [go_sem]
        replace A1 := PLift.up (A1.down.below hbl4 hx1)
        replace hx1 : v1.heap.size < w4.heap.size := by omega
        replace A2 := PLift.up (A2.down.below hbl4 hx2)
        replace hx2 : v2.heap.size < w4.heap.size := by omega
        replace A3 := PLift.up (A3.down.below hbl4 hx3)
        replace hx3 : v3.heap.size < w4.heap.size := by omega
        clear hw4 hbl4 d0 d1 d2 I4
        have VK : PLift (∀ w', Below w4.heap.size w4 w' → w'.cell? ⟨v1.heap.size, 0, none⟩ = some (.int .i64 p1) ∧ w'.cell? ⟨v1.heap.size, 1, none⟩ = some (.int .i64 b1) ∧ w'.cell? ⟨v1.heap.size, 2, none⟩ = some (.int .i64 u1) ∧ w'.cell? ⟨v2.heap.size, 0, none⟩ = some (.int .i64 p1) ∧ w'.cell? ⟨v2.heap.size, 1, none⟩ = some (.int .i64 b1) ∧ w'.cell? ⟨v2.heap.size, 2, none⟩ = some (.int .i64 u1) ∧ w'.cell? ⟨v3.heap.size, 0, none⟩ = some (.int .i64 p2) ∧ w'.cell? ⟨v3.heap.size, 1, none⟩ = some (.int .i64 b2) ∧ w'.cell? ⟨v3.heap.size, 2, none⟩ = some (.int .i64 u2) ∧ w'.cell? ⟨v4.heap.size, 0, none⟩ = some (.int .i64 p2) ∧ w'.cell? ⟨v4.heap.size, 1, none⟩ = some (.int .i64 b2) ∧ w'.cell? ⟨v4.heap.size, 2, none⟩ = some (.int .i64 u2) ∧ w'.cell? ⟨w.heap.size + 1, 0, none⟩ = some (.slice a1 xs1.length c1) ∧ w'.cell? ⟨w.heap.size + 1, 1, none⟩ = some (.slice a2 xs2.length c2)) := PLift.up (fun w' hb => by
          obtain ⟨a10, a11, a12⟩ := A1.down.below hb hx1
          obtain ⟨a20, a21, a22⟩ := A2.down.below hb hx2
          obtain ⟨a30, a31, a32⟩ := A3.down.below hb hx3
          obtain ⟨a40, a41, a42⟩ := A4.down.below hb ht4
          obtain ⟨m0, m1⟩ := M0.down.below (J4.down.trans (hb.mono (by omega))) (by omega)
          exact ⟨a10, a11, a12, a20, a21, a22, a30, a31, a32, a40, a41, a42, m0, m1⟩)
        have V4 : PLift (Below w4.heap.size w4 w4.drew) := PLift.up (Below.refl _ _).drew
        have hq4 : w.heap.size + 2 ≤ w4.heap.size := by omega
        clear A1 A2 A3 A4
        as_aux_lemma =>
          go_region_held3 (fun w' => w'.cell? ⟨v1.heap.size, 0, none⟩ = some (.int .i64 p1) ∧ w'.cell? ⟨v1.heap.size, 1, none⟩ = some (.int .i64 b1) ∧ w'.cell? ⟨v1.heap.size, 2, none⟩ = some (.int .i64 u1) ∧ w'.cell? ⟨v2.heap.size, 0, none⟩ = some (.int .i64 p1) ∧ w'.cell? ⟨v2.heap.size, 1, none⟩ = some (.int .i64 b1) ∧ w'.cell? ⟨v2.heap.size, 2, none⟩ = some (.int .i64 u1) ∧ w'.cell? ⟨v3.heap.size, 0, none⟩ = some (.int .i64 p2) ∧ w'.cell? ⟨v3.heap.size, 1, none⟩ = some (.int .i64 b2) ∧ w'.cell? ⟨v3.heap.size, 2, none⟩ = some (.int .i64 u2) ∧ w'.cell? ⟨v4.heap.size, 0, none⟩ = some (.int .i64 p2) ∧ w'.cell? ⟨v4.heap.size, 1, none⟩ = some (.int .i64 b2) ∧ w'.cell? ⟨v4.heap.size, 2, none⟩ = some (.int .i64 u2) ∧ w'.cell? ⟨w.heap.size + 1, 0, none⟩ = some (.slice a1 xs1.length c1) ∧ w'.cell? ⟨w.heap.size + 1, 1, none⟩ = some (.slice a2 xs2.length c2))
            (first | exact VK.down _ V4.down | exact VK.down _ V5.down | exact VK.down _ V6.down | exact VK.down _ V7.down | exact VK.down _ V8.down | exact VK.down _ V9.down)
            (first
              | (go_at_call 51; refine (H5.down _ (J4.down.trans (V4.down.mono hq4))).mono ?_; rintro e w5 ⟨rfl, hb5⟩; have V5 := PLift.up (V4.down.trans (hb5.mono V4.down.size)); clear hb5)
              | (go_at_call 52; refine (H6.down _ (J4.down.trans (V5.down.mono hq4))).mono ?_; rintro e w6 ⟨rfl, hb6⟩; have V6 := PLift.up (V5.down.trans (hb6.mono V5.down.size)); clear hb6)
              | (go_at_call 53; refine (H7.down _ (J4.down.trans (V6.down.mono hq4))).mono ?_; rintro e w7 ⟨⟨b7, k7, rfl, hE7⟩, hb7⟩; have V7 := PLift.up (V6.down.trans (hb7.mono V6.down.size)); have E7 := PLift.up hE7; clear hb7 hE7)
              | (go_at_call 54; refine (H8.down _ (J4.down.trans (V7.down.mono hq4))).mono ?_; rintro e w8 ⟨⟨b8, k8, rfl, hE8⟩, hb8⟩; have V8 := PLift.up (V7.down.trans (hb8.mono V7.down.size)); have E8 := PLift.up hE8; have E7' := PLift.up ((E7.down.below hb8 (Nat.le_refl _)).mono hb8.size); clear hb8 hE8)
              | (go_at_call 13; refine (equal_i64 b7 b8 k7 k8 w8.heap.size ys ys w8 E7'.down E8.down (Nat.le_refl _) HYS.down HYS.down).mono ?_; rintro e w9 ⟨rfl, hb9⟩; have V9 := PLift.up (V8.down.trans (hb9.mono V8.down.size)); clear hb9))
          all_goals (go_wp2_with fail)
          all_goals (go_returns)
          all_goals exact ⟨by simp, HB0.down.trans ((J4.down.trans (V9.down.mono hq4)).mono (by omega))⟩
  · go_enter Try.func9, Try.ntmps9
    go_wp2_with fail
    go_returns
    exact ⟨rfl, by go_grown⟩
theorem own : ownKnob Try.prog.godebug = none := by kernel_rfl
theorem laidOut : laidOutB Try.prog = true := by kernel_rfl
set_option maxRecDepth 100000 in
theorem lifted (os : Os) (started : os.Started) (H : Type) (enc : TypeId × Value → H) :
    ReturnsInHanded {} Try.checked os 9 .any (Rows.synodVowsSpec.pre6 enc Try.prog Try.f9 Rows.synodVowsRow.domain false) (Rows.synodVowsSpec.post enc Try.prog Try.f9 false true false false) := by
  refine returnsInHanded_of_change_sized (C := Try.checked) own started (by kernel_rfl) Try.func9
    (ChangeSpec.witness6 (enc := enc) (C := Try.checked) false ⟨#[], #[.agg #[.int .i64 0, .int .i64 0, .int .i64 0], .int .i64 0, .int .i64 0, .slice none 0 0, .agg #[.slice none 0 0, .slice none 0 0]], []⟩ 8 (by kernel_rfl) (by kernel_rfl) (by kernel_rfl) (by kernel_rfl)) ?_
  intro W base args ds gs before hval0 hW hcnd hsz0 _
  have hval : ∀ (j : Nat) t v, Try.f9.params[j]? = some t → args[j]? = some v → Value.okWide Try.prog W .any base t v := hval0
  have hW' := hW
  obtain ⟨p, q, hA0, hV, rfl, hfz, hnd⟩ := hW
  have hA : DataW.TrodAll enc Try.prog W 0 (fun _ => true) true Try.f9.params.toList args.toList ds p := hA0
  rw [Try.params9] at hA hval hsz0
  obtain ⟨v0, vs0, d0, ds0, p0, q0, hargs, rfl, rfl, h0, r0⟩ := trodAll_cons hA
  obtain ⟨v1, vs1, d1, ds1, p1, q1, rfl, rfl, rfl, h1, r1⟩ := trodAll_cons r0
  obtain ⟨v2, vs2, d2, ds2, p2, q2, rfl, rfl, rfl, h2, r2⟩ := trodAll_cons r1
  obtain ⟨v3, vs3, d3, ds3, p3, q3, rfl, rfl, rfl, h3, r3⟩ := trodAll_cons r2
  obtain ⟨v4, vs4, d4, ds4, p4, q4, rfl, rfl, rfl, h4, r4⟩ := trodAll_cons r3
  obtain ⟨rfl, rfl, rfl⟩ := trodAll_nil r4
  obtain rfl : args = #[v0, v1, v2, v3, v4] := by cases args; simp_all
  obtain ⟨rfl, rfl⟩ := trodVars_none hV
  have lt0 : ∀ x ∈ p0, x.block < W.heap.size := by obtain ⟨m, hm⟩ := h0; exact DataW.trod_lt m _ _ _ hm
  obtain ⟨x0, c0, ok0⟩ := Opens.arg (opVow W) h0 hsz0 0 rfl rfl
  obtain rfl := arg_struct (hval 0 66 v0 rfl rfl) Try.underlying66 c0
  have lt1 : ∀ x ∈ p1, x.block < W.heap.size := by obtain ⟨m, hm⟩ := h1; exact DataW.trod_lt m _ _ _ hm
  obtain ⟨x1, c1, ok1⟩ := Opens.arg (Opens.i64 Try.underlying3) h1 hsz0 1 rfl rfl
  obtain rfl := arg_int Try.underlying3 (hval 1 3 v1 rfl rfl) c1
  have lt2 : ∀ x ∈ p2, x.block < W.heap.size := by obtain ⟨m, hm⟩ := h2; exact DataW.trod_lt m _ _ _ hm
  obtain ⟨x2, c2, ok2⟩ := Opens.arg (Opens.i64 Try.underlying3) h2 hsz0 2 rfl rfl
  obtain rfl := arg_int Try.underlying3 (hval 2 3 v2 rfl rfl) c2
  have lt3 : ∀ x ∈ p3, x.block < W.heap.size := by obtain ⟨m, hm⟩ := h3; exact DataW.trod_lt m _ _ _ hm
  obtain ⟨x3, c3, ok3⟩ := Opens.arg (opVows W) h3 hsz0 3 rfl rfl
  obtain rfl := arg_slice Try.underlying67 (hval 3 67 v3 rfl rfl) c3
  have lt4 : ∀ x ∈ p4, x.block < W.heap.size := by obtain ⟨m, hm⟩ := h4; exact DataW.trod_lt m _ _ _ hm
  obtain ⟨x4, c4, ok4⟩ := Opens.arg (opCouncil W) h4 hsz0 4 rfl rfl
  obtain rfl := arg_struct (hval 4 70 v4 rfl rfl) Try.underlying70 c4
  clear hA0 hval0
  refine (walk x0 x1 x2 x3 x4 W ok0 ok1 ok2 ok3 ok4).mono fun e W' ⟨he, bel⟩ => ?_
  subst he
  exact ⟨_, rfl, _, _, _, [], _, [], hW', trodAll_mk1 (shut_bool Try.underlying4 _), (trodAll_cons_mk (Below.trod laidOut (by kernel_rfl) (of_decide_eq_true (by kernel_rfl)) h0 bel lt0) (trodAll_cons_mk (Below.trod laidOut (by kernel_rfl) (of_decide_eq_true (by kernel_rfl)) h1 bel lt1) (trodAll_cons_mk (Below.trod laidOut (by kernel_rfl) (of_decide_eq_true (by kernel_rfl)) h2 bel lt2) (trodAll_cons_mk (Below.trod laidOut (by kernel_rfl) (of_decide_eq_true (by kernel_rfl)) h3 bel lt3) (trodAll_cons_mk (Below.trod laidOut (by kernel_rfl) (of_decide_eq_true (by kernel_rfl)) h4 bel lt4) trodAll_mk0))))), rfl, bel.frame _, fun h => by cases h⟩
theorem over : Rows.synodVowsRow.holds Try.pinned (OpenSpec.ofChange Rows.synodVowsSpec) :=
  OpenClaim.holds_of_wide 9 Try.f9 rfl rfl rfl rfl rfl rfl rfl ⟨rfl, rfl, rfl, rfl, rfl⟩ rfl rfl rfl rfl rfl (by kernel_rfl) Try.func9 (by kernel_rfl)
    (of_decide_eq_true (by kernel_rfl)) (by unfold Func.isWrapper; first | (rw [if_pos (by decide +kernel)]; kernel_rfl) | (rw [if_neg (by decide +kernel)]; exact ⟨rfl, rfl⟩))
    (fun os started H enc _ => lifted os started H enc)
theorem proved : Rows.SynodVowsSaid := over
#print axioms proved
end synodVows
end Go.Proofs.Ytemogefcbemjfaa
