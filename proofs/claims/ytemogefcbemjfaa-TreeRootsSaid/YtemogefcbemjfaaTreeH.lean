/- The reference's GrownMarks. -/
import Derived.Test.YtemogefcbemjfaaTreeG
import Derived.Test.YtemogefcbemjfaaBetw
namespace Go.Proofs.Ytemogefcbemjfaa
open Go.RowKit
structure GmSt (xs : List ByteArray) (n : Nat) (w wr : World) (at_ : Nat) (v : Value) (out : List Nat) : Prop where
  eq : out ++ gr 9 (xs.drop at_) (n - at_) = gr 9 xs n
  own : wr.ownsRow w.heap.size 28 1 v out.length (out.flatMap e64)
  bel : Below w.heap.size w wr
theorem elsDrop {w : World} {B : Nat} {b o : Nat} {xs : List ByteArray} (h : Els w B (some ⟨b, o, none⟩) 1 eStr xs) (m : Nat) : Els w B (some ⟨b, o + m, none⟩) 1 eStr (xs.drop m) := by simpa using h.drop m
set_option maxRecDepth 20000 in
set_option maxHeartbeats 2000000 in
theorem grown_any (a : Option Addr) (c B : Nat) (xs : List ByteArray) (n : Int) (w : World) (hn : -9223372036854775808 ≤ n ∧ n ≤ 9223372036854775807) (hl : xs.length ≤ c) (hc : c ≤ maxLen) (hE : Els w B a 1 eStr xs) (hall : ∀ s ∈ xs, s.size ≤ 140737488351232) (hB : B ≤ w.heap.size) :
    Calls Try.prog 75 #[.slice a xs.length c, .int .i64 n] w fun e w' => (∃ v, e = .returned (.tuple #[v, .int .i64 (groR xs n).2]) ∧ ∃ m, w'.ownsRow w.heap.size 28 1 v m ((groR xs n).1.flatMap e64)) ∧ Below w.heap.size w w' := by
  unfold maxLen at hc
  by_cases h256 : 256 < xs.length
  · rw [show groR xs n = ([], 2) from if_pos h256]
    go_enter Try.func75, Try.ntmps75
    go_wp2_with fail
    go_returns
    exact ⟨⟨_, rfl, 0, by simp, .inl ⟨rfl, rfl⟩⟩, Below.refl _ _⟩
  · by_cases hr : n < 0 ∨ (xs.length : Int) < n
    · rw [show groR xs n = ([], 1) from by rw [groR, if_neg h256, if_pos hr]]
      have hbt : (decide (0 ≤ n) && decide (n ≤ (xs.length : Int))) = false := by
        rw [Bool.and_eq_false_iff]; rcases hr with h | h
        · exact .inl (by simp; omega)
        · exact .inr (by simp; omega)
      go_enter Try.func75, Try.ntmps75
      go_wp2_with fail
      refine (between_z _ _ _ _).mono ?_
      rintro e w1 ⟨rfl, rfl⟩
      rw [hbt]
      go_wp2_with fail
      go_returns
      exact ⟨⟨_, rfl, 0, by simp, .inl ⟨rfl, rfl⟩⟩, Below.refl _ _⟩
    · rw [show groR xs n = (gr 9 xs n.toNat, 0) from by rw [groR, if_neg h256, if_neg hr]]
      obtain ⟨N, rfl⟩ : ∃ N : Nat, n = N := ⟨n.toNat, by omega⟩
      rw [Int.toNat_natCast]
      have hnl : N ≤ xs.length := by omega
      have hbt : (decide ((0 : Int) ≤ (N : Int)) && decide ((N : Int) ≤ (xs.length : Int))) = true := by simp; omega
      have HE := PLift.up hE
      have HA := PLift.up hall
      have HBT := PLift.up hbt
      have d1 : decide ((256 : Int) < (xs.length : Int)) = false := by simp; omega
      have d4 : decide (256 < xs.length) = false := by simp; omega
      clear hn hE hall hr hbt
      go_enter Try.func75, Try.ntmps75
      go_wp2_with fail
      refine (between_z _ _ _ _).mono ?_
      rintro e w1 ⟨rfl, rfl⟩
      rw [HBT.down]
      go_wp2_with fail
      go_loopw [6, 7] (fun v av wr => ∃ (p : Nat) (out : List Nat), av = .int .i64 p ∧ p ≤ N ∧ out.length ≤ p ∧ Hid (GmSt xs N w wr p v out)) (fun _ av _ => N - (intOf av).toNat)
      case atStart => exact ⟨0, [], rfl, by omega, by simp, by simp, ⟨by simp, .inl ⟨rfl, rfl⟩⟩, Below.refl _ _⟩
      case round =>
        obtain ⟨p, out, rfl, hp, hol, hI⟩ := hrel
        have hBw := hI.out.bel.size
        by_cases hlt : p < N
        · obtain ⟨b, o, rfl, hbB, hcx⟩ := HE.down.get 0 (by omega)
          clear hcx
          have dl : decide ((p : Int) < (N : Int)) = true := by simp; omega
          have dl2 : decide (p < N) = true := by simp; omega
          go_wp2_with fail
          go_loop [8] (fun sv => ∃ (s : Nat), sv = .int .i64 s ∧ 1 ≤ s ∧ p + s ≤ N ∧ Hid (∃ q, q ≤ 8 ∧ s = 2 ^ q)) (fun sv => N - (intOf sv).toNat)
          case atStart => exact ⟨1, rfl, by omega, by omega, 0, by omega, rfl⟩
          case round =>
            obtain ⟨s, rfl, hs1, hs2, hS⟩ := hrel
            by_cases hm : p + 2 * s ≤ N
            · have HS2 : PLift (∃ q, q ≤ 8 ∧ s * 2 = 2 ^ q) := PLift.up (by
                obtain ⟨q, hq, rfl⟩ := hS.out
                refine ⟨q + 1, ?_, by rw [Nat.pow_succ]⟩
                refine Classical.byContradiction fun h => ?_
                obtain rfl : q = 8 := by omega
                simp at hm; omega)
              clear hS
              go_wp2_with fail
              go_round
              case rel => exact ⟨s * 2, by simp, by omega, by omega, HS2.down⟩
              case measure => simp [intOf]; omega
            · have HEQ : PLift (out ++ [rt pairN (((xs.drop p).take s).map leafN)] ++ gr 9 (xs.drop (p + s)) (N - (p + s)) = gr 9 xs N) := PLift.up (by
                obtain ⟨q, hq, rfl⟩ := hS.out
                have h := hI.out.eq
                rw [gr_head (xs.drop p) (N - p) q hq (by omega) (by omega), List.drop_drop] at h
                rw [← h, List.append_assoc, show N - (p + 2 ^ q) = N - p - 2 ^ q from by omega]; rfl)
              have HO := PLift.up hI.out.own
              have HBw := PLift.up hI.out.bel
              have l1 : ((xs.drop p).take s).length = s := by simp; omega
              have R : PLift (Calls Try.prog 81 #[.slice (some ⟨b, o + p, none⟩) s (c - p)] wr _) := PLift.up (by
                have := rootOf_any (some ⟨b, o + p, none⟩) (c - p) B ((xs.drop p).take s) wr (by omega) (((elsDrop HE.down p).take s).below HBw.down hB) (fun t ht => HA.down t (List.mem_of_mem_drop (List.mem_of_mem_take ht))) (by omega)
                rw [l1] at this; exact this)
              generalize rt pairN (((xs.drop p).take s).map leafN) = z at *
              have k0 : (0 : Int) ≤ (p : Int) := by omega
              have k1 : (p : Int) ≤ (p : Int) + (s : Int) := by omega
              have k2 : (p : Int) + (s : Int) ≤ (c : Int) := by omega
              have k3 : ((p : Int) + (s : Int)).toNat = p + s := by omega
              have k4 : ¬ c = p := by omega
              have k5 : ((p : Int) + (s : Int) - (p : Int)).toNat = s := by omega
              have k6 : p + s - p = s := by omega
              clear hI hS l1
              go_wp2_with fail
              refine R.down.mono ?_
              rintro e w1 ⟨rfl, hb1⟩
              have HO1 := PLift.up (own_below' HO.down hb1)
              have HB1 := PLift.up (HBw.down.trans (hb1.mono hBw))
              have hs1' := HB1.down.size
              clear hb1 k0 k1 k2 k3 k4 k5 k6
              go_wp2_with (at_builtin; refine wpApp _ rfl _ _ _ rfl w.heap.size _ _ _ elT_u64t _ out.length _ rfl (HO1.down.alloc _) (some ⟨w1.heap.size, 0, none⟩) 1 1 [.int .u64 (z : Nat)] rfl ?_ ?_ ?_ ?_ ?_ ?_ ?_ ?_)
              · rfl
              · simp
              · intro ad had j u hu
                obtain rfl := Option.some.inj had
                match j, hu with
                | 0, hu => simp at hu; subst hu; simp [Addr.add_lit, go_sem]
                | j + 1, hu => simp at hu
              · simp [Value.oneCell']
              · simp only [maxLen]; omega
              · omega
              · simp; omega
              intro v' w2 hown hg _
              have HBB : PLift (Below w.heap.size w w2) := PLift.up ((HB1.down.alloc (by omega) _).grown hg (by simp; omega) (fun q hq => (HO1.down.lt q hq).1))
              have HO2 := PLift.up hown
              clear hown hg
              go_wp2_with fail
              go_roundw
              case rel =>
                refine ⟨p + s, out ++ [z], by go_num, by omega, by simp; omega, HEQ.down, ?_, HBB.down⟩
                have := HO2.down; simpa [e64] using this
              case measure => simp [intOf]; omega
        · obtain rfl : p = N := by omega
          have he := hI.out.eq
          have hg0 : gr 9 (xs.drop p) (p - p) = [] := by rw [Nat.sub_self]; simp [gr]
          rw [hg0, List.append_nil] at he
          have HO : PLift (wr.ownsRow w.heap.size 28 1 u6 out.length ((gr 9 xs p).flatMap e64)) := PLift.up (by rw [← he]; exact hI.out.own)
          have HBB := PLift.up hI.out.bel
          clear hI he hg0
          go_wp2_with fail
          go_returns
          exact ⟨⟨_, rfl, _, HO.down⟩, HBB.down⟩
end Go.Proofs.Ytemogefcbemjfaa
