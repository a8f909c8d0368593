/- Package pack: the reference's Unpacked. -/
import Derived.Test.YtemogefcbemjfaaPackG
namespace Go.Proofs.Ytemogefcbemjfaa
open Go.RowKit
theorem packedS_any (n : Nat) (w : World) (h : n < 18446744073709551616) :
    Calls Try.prog 68 #[.int .u64 n] w fun e w' => e = .returned (.string (packS n)) ∧ Below w.heap.size w w' := packed_any 9 (Nat.le_refl _) n w h (Nat.lt_of_lt_of_le h (by decide))
/-- The value of the bytes from k on, of the first m. -/
def valD (s : ByteArray) (k m : Nat) : Nat := vals ((s.data.toList.take m).drop k) % 18446744073709551616
theorem valD_end (s : ByteArray) (m : Nat) : valD s m m = 0 := by
  unfold valD; rw [List.drop_of_length_le (by simp; omega)]; rfl
theorem valD_zero (s : ByteArray) (m : Nat) : valD s 0 m = valT s m := rfl
theorem valD_step (s : ByteArray) (k m : Nat) (h : k < m) (hm : m ≤ s.size) : valD s k m = (128 * valD s (k + 1) m + (s[k]'(by omega)).toNat % 128) % 18446744073709551616 := by
  unfold valD
  have hl : k < (s.data.toList.take m).length := by simp; omega
  rw [List.drop_eq_getElem_cons hl]
  have e : (s.data.toList.take m)[k] = s[k]'(by omega) := by rw [List.getElem_take]; rfl
  rw [e]
  have e2 : vals (s[k]'(by omega) :: (s.data.toList.take m).drop (k + 1)) = (s[k]'(by omega)).toNat % 128 + 128 * vals ((s.data.toList.take m).drop (k + 1)) := rfl
  rw [e2]; omega
set_option maxHeartbeats 2000000 in
set_option maxRecDepth 20000 in
theorem unpacked_any (s : ByteArray) (w : World) (hs : s.size ≤ 140737488351232) :
    Calls Try.prog 62 #[.string s] w fun e w' => e = .returned (.tuple #[.int .u64 (getR s).1, .string (getR s).2.1, .int .i64 (getR s).2.2]) ∧ Below w.heap.size w w' := by
  obtain ⟨e, r, hE, hr1, hr2⟩ := ends_any s
  rw [hE.res]
  have HE := PLift.up hE
  have HR1 := PLift.up hr1
  have HR2 := PLift.up hr2
  have hle := hE.le
  clear hE hr1 hr2
  go_enter Try.func62, Try.ntmps62
  go_wp2_with fail
  go_loop [5, 11] (fun ev iv => ∃ k : Nat, k ≤ e ∧ iv = .int .i64 k ∧ ev = .int .i64 (-1)) (fun _ iv => s.size - (intOf iv).toNat)
  case atStart => exact ⟨0, by omega, rfl, rfl⟩
  case round =>
    obtain ⟨k, hk, rfl, rfl⟩ := hrel
    by_cases hks : k < s.size
    · by_cases hke : k < e
      · have hb := HE.down.big k hks hke
        go_wp2_with fail
        go_round
        case rel => exact ⟨k + 1, by omega, by go_num, rfl⟩
        case measure => simp [intOf]; omega
      · obtain rfl : k = e := by omega
        have hsm := HE.down.small hks
        by_cases h10 : k < 10
        · go_wp2_with fail
          all_goals
            go_loop [7, 8] (fun nv iv => ∃ (j : Nat) (z : Int), j ≤ k + 1 ∧ iv = .int .i64 z ∧ -1 ≤ z ∧ z < k + 1 ∧ nv = .int .u64 (valD s j (k + 1)) ∧ Hid (z = (j : Int) - 1)) (fun _ iv => (intOf iv + 1).toNat)
            case atStart => exact ⟨k + 1, k, by omega, rfl, by omega, by omega, by rw [valD_end]; rfl, by show _ = _; omega⟩
            case round =>
              obtain ⟨j, z, hj, rfl, hz1, hz2, rfl, hz⟩ := hrel
              by_cases h0 : 0 ≤ z
              · obtain ⟨i, rfl⟩ : ∃ i : Nat, z = i := ⟨z.toNat, by omega⟩
                obtain rfl : j = i + 1 := by have := hz.out; omega
                have hst := valD_step s i (k + 1) (by omega) (by omega)
                have hV : valD s (i + 1) (k + 1) < 18446744073709551616 := Nat.mod_lt _ (by decide)
                have HST := PLift.up hst
                clear hst hz
                generalize valD s (i + 1) (k + 1) = V at *
                go_wp2_with fail
                go_round
                case rel =>
                  refine ⟨i, (i : Int) - 1, by omega, rfl, by omega, by omega, ?_, rfl⟩
                  rw [HST.down]
                  have hx := UInt8.toNat_lt s[i]
                  have e1 : IntKind.u64.wrap (s[i].toNat : Int) = s[i].toNat := by rw [IntKind.wrap_u64]; omega
                  rw [e1, Int.tmod_eq_emod_of_nonneg (by omega), IntKind.wrap_u64, IntKind.wrap_u64]
                  congr 1; omega
                case measure => simp [intOf]
              · obtain rfl : z = -1 := by omega
                obtain rfl : j = 0 := by have := hz.out; omega
                rw [valD_zero]
                have hr := HR1.down hks
                have hvl : valT s (k + 1) < 18446744073709551616 := Nat.mod_lt _ (by decide)
                have k0 : (0 : Int) ≤ (k : Int) + 1 := by omega
                have k1 : (k : Int) + 1 ≤ (s.size : Int) := by omega
                have k2 : IntKind.i64.wrap ((k : Int) + 1) = (k : Int) + 1 := IntWalk.i64_in _ (by omega)
                have k3 : ((k : Int) + 1).toNat = k + 1 := by omega
                by_cases hq : packS (valT s (k + 1)) = s.extract 0 (k + 1)
                · rw [if_pos ⟨h10, hq⟩] at hr
                  subst hr
                  have P := PLift.up (fun w => packedS_any (valT s (k + 1)) w hvl)
                  rw [hq] at P
                  clear hq
                  go_wp2_with fail
                  go_region_held3 (fun _ => True) (trivial) (first | (go_at_call 68; refine (P.down _).mono ?_; rintro e w1 ⟨rfl, hb1⟩; have HB1 := PLift.up hb1; clear hb1))
                  all_goals go_wp2_with fail
                  all_goals (go_quiet (fail))
                  all_goals go_wp2_with fail
                  all_goals go_returns
                  all_goals refine ⟨?_, ((Below.refl _ _).drew.trans HB1.down).drewn _⟩
                  all_goals (simp; done)
                · rw [if_neg (fun h => hq h.2)] at hr
                  subst hr
                  have P := PLift.up (fun w => packedS_any (valT s (k + 1)) w hvl)
                  generalize packS (valT s (k + 1)) = T at *
                  have hne := str_ne hq
                  clear hq
                  go_wp2_with fail
                  go_region_held3 (fun _ => True) (trivial) (first | (go_at_call 68; refine (P.down _).mono ?_; rintro e w1 ⟨rfl, hb1⟩; have HB1 := PLift.up hb1; clear hb1))
                  all_goals go_wp2_with fail
                  all_goals go_returns
                  all_goals refine ⟨?_, (Below.refl _ _).drew.trans HB1.down⟩
                  all_goals (simp; done)
        · have hr : r = (0, ⟨#[]⟩, 4) := by rw [HR1.down hks, if_neg (by omega)]
          subst hr
          go_wp2_with fail
          go_returns
          exact ⟨rfl, Below.refl _ _⟩
    · have hr := HR2.down (by omega)
      by_cases h10 : s.size < 10
      · rw [if_pos h10] at hr
        subst hr
        go_wp2_with fail
        go_returns
        exact ⟨rfl, Below.refl _ _⟩
      · rw [if_neg h10] at hr
        subst hr
        go_wp2_with fail
        go_returns
        exact ⟨rfl, Below.refl _ _⟩
end Go.Proofs.Ytemogefcbemjfaa
