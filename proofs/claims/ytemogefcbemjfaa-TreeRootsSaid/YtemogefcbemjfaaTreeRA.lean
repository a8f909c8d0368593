/- TreeRoots: no text -/
import Derived.Test.YtemogefcbemjfaaTreeRC
import Derived.Deep.RegionHeld3
namespace Go.Proofs.Ytemogefcbemjfaa
open Go.RowKit Go.ChangeShapes Go.WideShapes Go.ChangeAt
set_option linter.unusedVariables false
namespace treeRoots
set_option maxRecDepth 20000 in
set_option maxHeartbeats 2000000 in
theorem walk0 (l : SL ByteArray) (a b : Nat) (n : Int) (w : World) (h0 : l.xs.length = 0) (hl : SLok w w.heap.size 1 16 eStr (fun s => s.size ≤ 140737488351232) l) (ha : a < 18446744073709551616) (hb : b < 18446744073709551616) (hn : -9223372036854775808 ≤ n ∧ n ≤ 9223372036854775807) :
    Calls Try.prog 12 #[l.val, .int .u64 a, .int .u64 b, .int .i64 n] w fun e w' => e = .returned (.bool true) ∧ Below w.heap.size w w' := by
  obtain ⟨la, lc, xs⟩ := l
  have hls := hl.els; have hcap := hl.cap; have hmax := hl.max; have heach := hl.each
  simp only at hls hcap hmax heach
  have hlen : xs.length ≤ 140737488351232 := by have h2 := hl.reach; simp only at h2; omega
  have HL := PLift.up hls
  have HA : PLift (∀ s ∈ xs, s.size ≤ 140737488351232) := PLift.up (fun s hs => (heach s hs).1)
  have P1 : PLift (∀ w', Below w.heap.size w w' → _) := PLift.up (fun w' hb => rootE_any la lc w.heap.size xs w' hcap hmax (HL.down.below hb (Nat.le_refl _)) HA.down)
  have P2 : PLift (∀ w', Below w.heap.size w w' → _) := PLift.up (fun w' hb => grows_any la lc w.heap.size xs n w' hn hcap hmax (HL.down.below hb (Nat.le_refl _)) HA.down hb.size)
  have P3 : PLift (∀ w', Below w.heap.size w w' → _) := PLift.up (fun w' hb => grown_any la lc w.heap.size xs n w' hn hcap hmax (HL.down.below hb (Nat.le_refl _)) HA.down hb.size)
  have P4 := PLift.up (fun w => pair_any a b ha hb w)
  have P5 := PLift.up (fun w => pairOf_any a b ha hb w)
  have hgl : (groR xs n).1.length ≤ 9 := by
    unfold groR
    split
    · simp
    · split
      · simp
      · exact gr_lt 9 _ _
  have hrR : rootR xs = if 256 < xs.length then (0, 2) else (rt pairN (xs.map leafN), 0) := rfl
  obtain ⟨⟨ys, e3⟩, hR3⟩ : ∃ R, R = groR xs n := ⟨_, rfl⟩
  rw [← hR3] at P2 P3 hgl
  obtain ⟨⟨r, e1⟩, hR1⟩ : ∃ R, R = rootR xs := ⟨_, rfl⟩
  rw [← hR1] at P1 hrR
  generalize pairN a b = z at *
  simp only at P1 P2 P3 hgl
  simp only [SL.val] at *
  have HR := PLift.up hrR
  have H0 := PLift.up h0
  clear hR3 hR1 hl hls heach hrR h0
  go_enter Try.func12, Try.ntmps12
  go_wp2_with fail
  refine (P1.down _ (Below.refl _ _)).mono ?_
  rintro e w1 ⟨rfl, hb1⟩
  have B1 := PLift.up hb1
  clear hb1
  go_wp2_with fail
  refine (P2.down _ B1.down).mono ?_
  rintro e w2 ⟨⟨v2, rfl, n2, ho2⟩, hb2⟩
  obtain ⟨a2, c2, rfl, rfl, hE2, _, _⟩ := Els.ofOwn ho2 (fun _ _ => rfl) (by decide)
  have B2 := PLift.up (B1.down.trans (hb2.mono B1.down.size))
  have E2 := PLift.up hE2
  clear hb2 hE2 ho2
  go_wp2_with fail
  refine (P3.down _ B2.down).mono ?_
  rintro e w3 ⟨⟨v3, rfl, n3, ho3⟩, hb3⟩
  obtain ⟨a3, c3, rfl, rfl, hE3, _, _⟩ := Els.ofOwn ho3 (fun _ _ => rfl) (by decide)
  have B3 := PLift.up (B2.down.trans (hb3.mono B2.down.size))
  replace E2 := PLift.up ((E2.down.below hb3 (Nat.le_refl _)).mono hb3.size)
  have E3 := PLift.up hE3
  clear hb3 hE3 ho3
  have P6 : PLift (∀ m, Calls _ _ _ (w3.drewN m) _) := PLift.up (fun m => equalq_u64 a2 a3 c2 c3 w3.heap.size ys ys (w3.drewN m) E2.down E3.down (by omega) (by omega))
  have V0 : PLift (Below w3.heap.size w3 w3.drew) := PLift.up (Below.refl _ _).drew
  have hB3 := B3.down.size
  have Q : PLift (xs.length ≤ 256 → ∀ w', Below w.heap.size w w' → _) := PLift.up (fun h w' hb => rootOf_any la lc w.heap.size xs w' h (HL.down.below hb (Nat.le_refl _)) HA.down hb.size)
  obtain rfl := List.eq_nil_of_length_eq_zero H0.down
  have Q1 := PLift.up (Q.down (by simp))
  have hr := HR.down
  simp only [List.length_nil, Nat.not_lt_zero, if_false, Prod.mk.injEq] at hr
  obtain ⟨rfl, rfl⟩ := hr
  clear Q HR
  generalize rt pairN (List.map leafN []) = R at *
  go_wp2_with fail
  go_quiet ((first
    | (go_at_call 76; exact quiet_left (P4.down _))
    | (go_at_call 77; exact quiet_left (P5.down _))
    | (go_at_call 78; exact Calls.quiet_of (P6.down _))))
  have V4 : PLift (Below w3.heap.size w3 (w3.drewN nq)) := PLift.up ((Below.refl _ _).drewn nq)
  all_goals go_wp2_with fail
  all_goals (refine (Q1.down _ (B3.down.trans (V4.down.mono hB3))).mono ?_; rintro e w5 ⟨rfl, hb5⟩)
  all_goals have V5 := PLift.up ((B3.down.trans (V4.down.mono hB3)).trans (hb5.mono (B3.down.trans (V4.down.mono hB3)).size))
  all_goals clear hb5
  all_goals go_wp2_with fail
  all_goals go_returns
  all_goals exact ⟨by simp, V5.down⟩
end treeRoots
end Go.Proofs.Ytemogefcbemjfaa
