/- TreeRoots: some texts -/
import Derived.Test.YtemogefcbemjfaaTreeRC
import Derived.Deep.RegionHeld3
namespace Go.Proofs.Ytemogefcbemjfaa
open Go.RowKit Go.ChangeShapes Go.WideShapes Go.ChangeAt
set_option linter.unusedVariables false
namespace treeRoots
set_option maxRecDepth 20000 in
set_option maxHeartbeats 2000000 in
theorem walk1 (l : SL ByteArray) (a b : Nat) (n : Int) (w : World) (h0 : ¬ l.xs.length = 0) (hl : SLok w w.heap.size 1 16 eStr (fun s => s.size ≤ 140737488351232) l) (ha : a < 18446744073709551616) (hb : b < 18446744073709551616) (hn : -9223372036854775808 ≤ n ∧ n ≤ 9223372036854775807) :
    Calls Try.prog 12 #[l.val, .int .u64 a, .int .u64 b, .int .i64 n] w fun e w' => e = .returned (.bool true) ∧ Below w.heap.size w w' := by
  obtain ⟨la, lc, xs⟩ := l
  have hls := hl.els; have hcap := hl.cap; have hmax := hl.max; have heach := hl.each
  simp only at hls hcap hmax heach
  have hlen : xs.length ≤ 140737488351232 := by have h2 := hl.reach; simp only at h2; omega
  have HL := PLift.up hls
  have HA : PLift (∀ s ∈ xs, s.size ≤ 140737488351232) := PLift.up (fun s hs => (heach s hs).1)
  have P1 : PLift (∀ w', Below w.heap.size w w' → _) := PLift.up (fun w' hb => rootE_any la lc w.heap.size xs w' hcap hmax (HL.down.below hb (Nat.le_refl _)) HA.down)
  have P2 : PLift (∀ w', Below w.heap.size w w' → _) := PLift.up (fun w' hb => grows_any la lc w.heap.size xs n w' hn hcap hmax (HL.down.below hb (Nat.le_refl _)) HA.down hb.size)
  have P3 : PLift (∀ w', Below w.heap.size w w' → _) := PLift.up (fun w' hb => grown_any la lc w.heap.size xs n w' hn hcap hmax (HL.down.below hb (Nat.le_refl _)) HA.down hb.size)
  have P4 := PLift.up (fun w => pair_any a b ha hb w)
  have P5 := PLift.up (fun w => pairOf_any a b ha hb w)
  have hgl : (groR xs n).1.length ≤ 9 := by
    unfold groR
    split
    · simp
    · split
      · simp
      · exact gr_lt 9 _ _
  have hrR : rootR xs = if 256 < xs.length then (0, 2) else (rt pairN (xs.map leafN), 0) := rfl
  obtain ⟨⟨ys, e3⟩, hR3⟩ : ∃ R, R = groR xs n := ⟨_, rfl⟩
  rw [← hR3] at P2 P3 hgl
  obtain ⟨⟨r, e1⟩, hR1⟩ : ∃ R, R = rootR xs := ⟨_, rfl⟩
  rw [← hR1] at P1 hrR
  generalize pairN a b = z at *
  simp only at P1 P2 P3 hgl
  simp only [SL.val] at *
  have HR := PLift.up hrR
  clear hR3 hR1 hl hls heach hrR
  go_enter Try.func12, Try.ntmps12
  go_wp2_with fail
  refine (P1.down _ (Below.refl _ _)).mono ?_
  rintro e w1 ⟨rfl, hb1⟩
  have B1 := PLift.up hb1
  clear hb1
  go_wp2_with fail
  refine (P2.down _ B1.down).mono ?_
  rintro e w2 ⟨⟨v2, rfl, n2, ho2⟩, hb2⟩
  obtain ⟨a2, c2, rfl, rfl, hE2, _, _⟩ := Els.ofOwn ho2 (fun _ _ => rfl) (by decide)
  have B2 := PLift.up (B1.down.trans (hb2.mono B1.down.size))
  have E2 := PLift.up hE2
  clear hb2 hE2 ho2
  go_wp2_with fail
  refine (P3.down _ B2.down).mono ?_
  rintro e w3 ⟨⟨v3, rfl, n3, ho3⟩, hb3⟩
  obtain ⟨a3, c3, rfl, rfl, hE3, _, _⟩ := Els.ofOwn ho3 (fun _ _ => rfl) (by decide)
  have B3 := PLift.up (B2.down.trans (hb3.mono B2.down.size))
  replace E2 := PLift.up ((E2.down.below hb3 (Nat.le_refl _)).mono hb3.size)
  have E3 := PLift.up hE3
  clear hb3 hE3 ho3
  have P6 : PLift (∀ w', Below w3.heap.size w3 w' → _) := PLift.up (fun w' hb => equal_u64 a2 a3 c2 c3 w3.heap.size ys ys w' (E2.down.below hb (Nat.le_refl _)) (E3.down.below hb (Nat.le_refl _)) hb.size (by omega) (by omega))
  have V0 : PLift (Below w3.heap.size w3 w3.drew) := PLift.up (Below.refl _ _).drew
  have hB3 := B3.down.size
  have Q : PLift (xs.length ≤ 256 → ∀ w', Below w.heap.size w w' → _) := PLift.up (fun h w' hb => rootOf_any la lc w.heap.size xs w' h (HL.down.below hb (Nat.le_refl _)) HA.down hb.size)
  obtain ⟨bl, o, rfl, hbl, hcell⟩ := HL.down.get 0 (by omega)
  have c0 := hcell 0 _ rfl
  simp only [Nat.zero_mul, Nat.add_zero] at c0
  have hs0 := HA.down xs[0] (List.getElem_mem (by omega))
  generalize xs[0] = s0 at *
  have VK : PLift (∀ w', Below w3.heap.size w3 w' → w'.cell? ⟨bl, o, none⟩ = some (.string s0)) := PLift.up (fun w' hw => ((B3.down.trans (hw.mono hB3)).cell (p := ⟨bl, o, none⟩) hbl).trans c0)
  have P7 := PLift.up (fun w => leaf_any s0 w hs0)
  have P8 := PLift.up (fun w => leafOf_any s0 w hs0)
  generalize leafN s0 = y at *
  have q0 := VK.down _ (Below.refl _ _)
  have hpos : 0 < xs.length := by omega
  have hpi : (0 : Int) < (xs.length : Int) := by omega
  clear hcell c0 hs0
  go_wp2_with fail
  go_region_held3 (fun w' => w'.cell? ⟨bl, o, none⟩ = some (.string s0)) (first | exact VK.down _ V0.down | exact VK.down _ V4.down | exact VK.down _ V5.down)
    (first
      | (go_at_call 76; refine (P4.down _).mono ?_; rintro e w' ⟨rfl, rfl⟩)
      | (go_at_call 77; refine (P5.down _).mono ?_; rintro e w' ⟨rfl, rfl⟩)
      | (go_at_call 78; refine (P6.down _ V0.down).mono ?_; rintro e w4 ⟨rfl, hb4⟩; have V4 := PLift.up (V0.down.trans (hb4.mono V0.down.size)); clear hb4)
      | (go_at_call 79; refine (P7.down _).mono ?_; rintro e w' ⟨rfl, rfl⟩)
      | (go_at_call 80; refine (P8.down _).mono ?_; rintro e w5 ⟨rfl, hb5⟩; have V5 := PLift.up (V4.down.trans (hb5.mono V4.down.size)); clear hb5))
  have V6 := PLift.up (B3.down.trans (V5.down.mono hB3))
  have hr := HR.down
  by_cases h256 : 256 < xs.length
  · rw [if_pos h256] at hr
    simp only [Prod.mk.injEq] at hr
    obtain ⟨rfl, rfl⟩ := hr
    clear Q HR
    go_wp2_with fail
    go_returns
    exact ⟨by simp, V6.down⟩
  · rw [if_neg h256] at hr
    simp only [Prod.mk.injEq] at hr
    have Q1 := PLift.up (Q.down (by omega))
    rw [← hr.1] at Q1
    obtain ⟨_, rfl⟩ := hr
    clear Q HR
    go_wp2_with fail
    refine (Q1.down _ V6.down).mono ?_
    rintro e w6 ⟨rfl, hb6⟩
    have V7 := PLift.up (V6.down.trans (hb6.mono V6.down.size))
    clear hb6
    go_wp2_with fail
    go_returns
    exact ⟨by simp, V7.down⟩
end treeRoots
end Go.Proofs.Ytemogefcbemjfaa
