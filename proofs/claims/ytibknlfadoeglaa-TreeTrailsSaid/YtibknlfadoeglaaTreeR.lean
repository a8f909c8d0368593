/- Package tree: split, root, Root. -/
import Derived.Test.YtibknlfadoeglaaTreeW
import Derived.Test.YtibknlfadoeglaaTreeL
import Derived.Test.YtibknlfadoeglaaOpen
import Derived.Test.YtibknlfadoeglaaShelf
import Derived.Deep.QuietTactic
import Derived.BigQuiet
namespace Go.Proofs.Ytibknlfadoeglaa
set_option linter.all false
open Go.RowKit
def sp (n : Nat) : Nat := Lib.bitLen (n - 1) - 1
theorem sp_all : ∀ n : Fin 257, 2 ≤ n.val → 1 ≤ Lib.bitLen (n.val - 1) ∧ sp n.val ≤ 7 ∧ 2 ^ sp n.val < n.val ∧ n.val ≤ 2 * 2 ^ sp n.val := by decide +kernel
theorem sp_any (n : Nat) (h2 : 2 ≤ n) (h : n ≤ 256) : 1 ≤ Lib.bitLen (n - 1) ∧ sp n ≤ 7 ∧ 2 ^ sp n < n ∧ n ≤ 2 * 2 ^ sp n := sp_all ⟨n, by omega⟩ h2
set_option maxHeartbeats 1000000 in
theorem split_any (n : Nat) (h2 : 2 ≤ n) (h : n ≤ 256) (w : World) :
    Calls Try.prog 160 #[.int .i64 n] w fun e w' => e = .returned (.int .i64 (2 ^ sp n : Nat)) ∧ w = w' := by
  obtain ⟨s1, s2, s3, s4⟩ := sp_any n h2 h
  have hp : sp n = Lib.bitLen (n - 1) - 1 := rfl
  have hN : ((n : Int) - 1).toNat = n - 1 := by omega
  have hlt : 2 ^ sp n ≤ 128 := Nat.pow_le_pow_right (n := 2) (by decide) s2
  obtain ⟨L, hL⟩ : ∃ L, L = Lib.bitLen (n - 1) := ⟨_, rfl⟩
  have R : PLift (∀ w, Calls Try.prog 200 #[.int .u64 ((n : Int) - 1)] w fun e w' => e = .returned (.int .i64 L) ∧ w' = w) := PLift.up (fun w => by
    have := Try.bits_Len ((n : Int) - 1) w (by omega) (by omega)
    rw [hN, ← hL] at this; exact this)
  rw [← hL] at hp s1
  obtain ⟨q, rfl⟩ : ∃ q, L = q + 1 := ⟨L - 1, by omega⟩
  have hq : sp n = q := by omega
  rw [hq] at hlt s2 ⊢
  clear hp hL s3 s4 hN hq s1
  go_enter Try.func160, Try.ntmps160
  go_wp2_with fail
  refine (R.down _).mono ?_
  rintro e w' ⟨rfl, rfl⟩
  go_wp2_with fail
  go_returns
  refine ⟨?_, rfl⟩
  have hW : wrap64 (2 ^ q) = ((2 ^ q : Nat) : Int) := by
    rw [show ((2 : Int) ^ q) = ((2 ^ q : Nat) : Int) from by simp]
    generalize 2 ^ q = y at *
    unfold wrap64; omega
  show Ending.returned (.int .i64 (wrap64 (2 ^ q))) = _
  rw [hW]
theorem lvl_lt : ∀ l : List Nat, (∀ x ∈ l, x < 18446744073709551616) → ∀ x ∈ lvl pairN l, x < 18446744073709551616
  | [], _, x, hx => by simp [lvl] at hx
  | [a], h, x, hx => by simp only [lvl] at hx; exact h x hx
  | a :: b :: l, h, x, hx => by
    rw [lvl] at hx
    rcases List.mem_cons.1 hx with rfl | hx
    · exact pairN_lt a b
    · exact lvl_lt l (fun y hy => h y (by simp [hy])) x hx
theorem rtF_lt : ∀ (f : Nat) (l : List Nat), (∀ x ∈ l, x < 18446744073709551616) → rtF pairN f l < 18446744073709551616
  | 0, l, h => by
    cases l with
    | nil => simp [rtF]
    | cons a l => simpa [rtF] using h a (by simp)
  | f + 1, l, h => by
    unfold rtF
    split
    · cases l with
      | nil => simp
      | cons a l => simpa using h a (by simp)
    · exact rtF_lt f _ (lvl_lt l h)
theorem rtN_lt (xs : List ByteArray) : rt pairN (xs.map leafN) < 18446744073709551616 := by
  refine rtF_lt _ _ fun x hx => ?_
  obtain ⟨s, _, rfl⟩ := List.mem_map.1 hx
  exact leafN_lt s
set_option maxRecDepth 20000 in
set_option maxHeartbeats 1000000 in
theorem root_any : ∀ (f : Nat) (a : Option Addr) (c B : Nat) (xs : List ByteArray) (w : World), xs.length ≤ f → xs.length ≤ 256 → xs.length ≤ c → c ≤ maxLen → Els w B a 1 eStr xs → (∀ s ∈ xs, s.size ≤ 140737488351232) →
    Calls Try.prog 161 #[.slice a xs.length c] w fun e w' => e = .returned (.int .u64 (rt pairN (xs.map leafN) : Nat)) ∧ ∃ n, w' = w.drewN n := by
  intro f
  induction f with
  | zero =>
    intro a c B xs w hf _ _ _ _ _
    obtain rfl : xs = [] := List.eq_nil_of_length_eq_zero (by omega)
    go_enter Try.func161, Try.ntmps161
    go_wp2_with fail
    go_returns
    exact ⟨rfl, 0, rfl⟩
  | succ f ih =>
    intro a c B xs w hf h256 hc hmx hE hall
    by_cases h0 : xs.length = 0
    · obtain rfl : xs = [] := List.eq_nil_of_length_eq_zero h0
      go_enter Try.func161, Try.ntmps161
      go_wp2_with fail
      go_returns
      exact ⟨rfl, 0, rfl⟩
    · obtain ⟨b, o, rfl, hb, hcell⟩ := hE.get 0 (by omega)
      have c0 := hcell 0 _ rfl
      simp only [Nat.zero_mul, Nat.add_zero] at c0
      clear hcell
      by_cases h1 : xs.length = 1
      · match xs, h1 with
        | [s], _ =>
          have hs := hall s (by simp)
          simp only [List.getElem_cons_zero] at c0
          clear hall hE ih hf h256 h0 h1
          go_enter Try.func161, Try.ntmps161
          go_wp2_with fail
          refine (leaf_any s _ hs).mono ?_
          rintro e w' ⟨rfl, rfl⟩
          go_wp2_with fail
          go_returns
          exact ⟨rfl, 0, rfl⟩
      · have h2 : 2 ≤ xs.length := by omega
        obtain ⟨_, s2, s3, s4⟩ := sp_any xs.length h2 h256
        have S := PLift.up (split_any xs.length h2 h256)
        have hr := rt_halves pairN (sp xs.length) (xs.map leafN) (by simpa using s3) (by simpa using s4)
        rw [← List.map_take, ← List.map_drop] at hr
        obtain ⟨m, hm⟩ : ∃ m, m = 2 ^ sp xs.length := ⟨_, rfl⟩
        rw [← hm] at hr S s3 s4
        have l1 : (xs.take m).length = m := by simp; omega
        have l2 : (xs.drop m).length = xs.length - m := by simp
        have R1 : PLift (∀ n, Calls Try.prog 161 #[.slice (some ⟨b, o, none⟩) m c] (w.drewN n) _) := PLift.up (fun n => by
          have := ih (some ⟨b, o, none⟩) c B (xs.take m) (w.drewN n) (by omega) (by omega) (by omega) hmx (hE.take m) (fun s hs => hall s (List.mem_of_mem_take hs))
          rw [l1] at this; exact this)
        have R2 : PLift (∀ n, Calls Try.prog 161 #[.slice (some ⟨b, o + m, none⟩) (xs.length - m) (c - m)] (w.drewN n) _) := PLift.up (fun n => by
          have := ih (some ⟨b, o + m, none⟩) (c - m) B (xs.drop m) (w.drewN n) (by omega) (by omega) (by omega) (by omega) (by simpa using (hE.drewn n).drop m) (fun s hs => hall s (List.mem_of_mem_drop hs))
          rw [l2] at this; exact this)
        have hp1 := rtN_lt (xs.take m)
        have hp2 := rtN_lt (xs.drop m)
        generalize rt pairN ((xs.take m).map leafN) = r1 at *
        generalize rt pairN ((xs.drop m).map leafN) = r2 at *
        rw [hr]
        clear hm hr ih l1 l2 hall hE c0 hf
        unfold maxLen at hmx
        generalize xs.length = q at *
        have z1 : ¬ c = m := by omega
        have k0 : (0 : Int) ≤ (m : Int) := by omega
        have k1 : (m : Int) ≤ (q : Int) := by omega
        have k2 : (m : Int) ≤ (c : Int) := by omega
        have k3 : (q : Int) ≤ (c : Int) := by omega
        go_enter Try.func161, Try.ntmps161
        go_wp2_with fail
        refine (S.down _).mono ?_
        rintro e w' ⟨rfl, rfl⟩
        go_wp2_with fail
        go_quiet ((first
          | (go_at_call_of 161 (Value.slice (some ⟨b, o, none⟩) m c); exact Calls.quiet_of (R1.down _))
          | (go_at_call_of 161 (Value.slice (some ⟨b, o + m, none⟩) (q - m) (c - m)); exact Calls.quiet_of (R2.down _))
          | (go_at_call 162; exact quiet_left (pair_any _ _ hp1 hp2 _))))
        go_wp2_with fail
        go_returns
        exact ⟨rfl, nq, rfl⟩
end Go.Proofs.Ytibknlfadoeglaa
