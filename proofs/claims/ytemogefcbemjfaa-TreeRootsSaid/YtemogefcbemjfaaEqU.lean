/- slices.Equal over uint64s. -/
import Derived.Test.YtemogefcbemjfaaBase
import Derived.RegionTactic
import Derived.ChangeAlike
namespace Go.Proofs.Ytemogefcbemjfaa
open Go.RowKit
set_option maxHeartbeats 1000000 in
set_option maxRecDepth 20000 in
theorem equal_u64 (a1 a2 : Option Addr) (c1 c2 B : Nat) (xs ys : List Nat) (w : World) (hx : Els w B a1 1 e64 xs) (hy : Els w B a2 1 e64 ys) (hB : B ≤ w.heap.size) (hl1 : xs.length ≤ 9223372036854775807) (hl2 : ys.length ≤ 9223372036854775807) :
    Calls Try.prog 78 #[.slice a1 xs.length c1, .slice a2 ys.length c2] w fun e w' => e = .returned (.bool (decide (xs = ys))) ∧ Below w.heap.size w w' := by
  by_cases hlen : xs.length = ys.length
  · have HX := PLift.up hx; have HY := PLift.up hy
    clear hx hy
    have hlen2 := PLift.up hlen
    rw [← hlen]
    clear hlen
    go_enter Try.func78, Try.ntmps78
    go_wp2_with fail
    go_loopw [5, 13] (fun _ i wr => ∃ k : Nat, k ≤ xs.length ∧ i = .int .i64 k ∧ Hid (xs.take k = ys.take k ∧ Below w.heap.size w wr)) (fun _ i _ => xs.length - (intOf i).toNat)
    case atStart => exact ⟨0, by omega, rfl, by simp, Below.refl _ _⟩
    case round =>
      obtain ⟨k, hk, rfl, hI⟩ := hrel
      by_cases hlt : k < xs.length
      · obtain ⟨b1, o1, rfl, hb1, hc1⟩ := (HX.down.below hI.out.2 hB).u64 k hlt
        obtain ⟨b2, o2, rfl, hb2, hc2⟩ := (HY.down.below hI.out.2 hB).u64 k (by have := hlen2.down; omega)
        have hsx := take_snoc' xs k hlt
        have hsy := take_snoc' ys k (by have := hlen2.down; omega)
        have hgx : xs[k]? = some xs[k] := List.getElem?_eq_getElem hlt
        have hgy : ys[k]? = some (ys[k]'(by have := hlen2.down; omega)) := List.getElem?_eq_getElem _
        generalize xs[k] = x at *
        generalize ys[k]'(by have := hlen2.down; omega) = y at *
        have HSX := PLift.up hsx; have HSY := PLift.up hsy; have HGX := PLift.up hgx; have HGY := PLift.up hgy
        have HI := PLift.up hI.out
        clear hsx hsy hgx hgy hI
        by_cases hxy : x = y
        · subst hxy
          go_wp2_with fail
          as_aux_lemma =>
            go_region
            go_wp2_with fail
            go_roundw
            case rel => exact ⟨k + 1, by omega, by go_num, by rw [HSX.down, HSY.down, HI.down.1], HI.down.2.drew⟩
            case measure => simp [intOf]; omega
        · have hne : ((x : Int) == (y : Int)) = false := by simp; omega
          have hne2 : ((x : Int) != (y : Int)) = true := by simp; omega
          have hdec : decide (xs = ys) = false := by
            simp only [decide_eq_false_iff_not]
            intro h
            have h1 := HGX.down
            have h2 := HGY.down
            rw [h] at h1
            rw [h1] at h2
            exact hxy (Option.some.inj h2)
          have HD := PLift.up hdec
          clear hdec hxy
          go_wp2_with fail
          as_aux_lemma =>
            go_region
            go_wp2_with fail
            go_ret
            exact ⟨by rw [HD.down]; rfl, HI.down.2.drew⟩
      · have hdec : decide (xs = ys) = true := by
          simp only [decide_eq_true_eq]
          have h := hI.out.1
          rw [List.take_of_length_le (by omega), List.take_of_length_le (by have := hlen2.down; omega)] at h
          exact h
        have HD := PLift.up hdec
        have HI := PLift.up hI.out
        clear hdec hI
        go_wp2_with fail
        go_ret
        exact ⟨by rw [HD.down]; rfl, HI.down.2⟩
  · have hdec : decide (xs = ys) = false := by
      simp only [decide_eq_false_iff_not]
      intro h; exact hlen (by rw [h])
    rw [hdec]
    have hne : (((xs.length : Nat) : Int) == ((ys.length : Nat) : Int)) = false := by simp; omega
    clear hdec hlen hx hy
    go_enter Try.func78, Try.ntmps78
    go_wp2_with fail
    go_ret
    exact ⟨rfl, Below.refl _ _⟩

end Go.Proofs.Ytemogefcbemjfaa
