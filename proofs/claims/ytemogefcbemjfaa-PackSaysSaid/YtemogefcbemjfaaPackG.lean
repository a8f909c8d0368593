/- Package pack: Get; the reference's Unpacked. -/
import Derived.Test.YtemogefcbemjfaaPackP
import Derived.Test.YtemogefcbemjfaaCrcO
import Derived.Lib.VarintBits
import Derived.Deep.RegionHeld3
import Derived.Deep.QuietTactic
import Derived.BigQuiet
namespace Go.Proofs.Ytemogefcbemjfaa
open Go.RowKit

def vals (l : List UInt8) : Nat := l.foldr (fun b a => b.toNat % 128 + 128 * a) 0
theorem vals_append (l k : List UInt8) : vals (l ++ k) = vals l + 128 ^ l.length * vals k := by
  induction l with
  | nil => simp [vals]
  | cons b l ih =>
    have e : vals (b :: l ++ k) = b.toNat % 128 + 128 * vals (l ++ k) := rfl
    have e2 : vals (b :: l) = b.toNat % 128 + 128 * vals l := rfl
    rw [e, e2, ih, List.length_cons, Nat.pow_succ, Nat.mul_add, Nat.mul_comm (128 ^ l.length) 128, Nat.mul_assoc]; omega
theorem vals_lt (l : List UInt8) : vals l < 128 ^ l.length := by
  induction l with
  | nil => simp [vals]
  | cons b l ih =>
    have e2 : vals (b :: l) = b.toNat % 128 + 128 * vals l := rfl
    rw [e2, List.length_cons, Nat.pow_succ]; omega
def valT (s : ByteArray) (i : Nat) : Nat := vals (s.data.toList.take i) % 18446744073709551616
def getR (s : ByteArray) : Nat × ByteArray × Int :=
  match s.data.toList.findIdx? (fun b => b < 128) with
  | some i => if i < 10 ∧ packS (valT s (i + 1)) = s.extract 0 (i + 1) then (valT s (i + 1), s.extract (i + 1) s.size, 0) else (0, ⟨#[]⟩, 4)
  | none => (0, ⟨#[]⟩, if s.size < 10 then 3 else 4)
def Hits (s : ByteArray) (i : Nat) : Prop := ∃ h : i < s.size, s[i].toNat < 128 ∧ ∀ j (hj : j < i), 128 ≤ (s[j]'(by omega)).toNat
theorem getD_byte (s : ByteArray) (i : Nat) (h : i < s.size) : s.data.toList[i]'(by simpa using h) = s[i] := rfl
theorem cases_hit (s : ByteArray) : (∃ i, Hits s i ∧ s.data.toList.findIdx? (fun b => b < 128) = some i) ∨ ((∀ j (hj : j < s.size), 128 ≤ s[j].toNat) ∧ s.data.toList.findIdx? (fun b => b < 128) = none) := by
  cases h : s.data.toList.findIdx? (fun b => b < 128) with
  | some i =>
    refine .inl ⟨i, ?_, rfl⟩
    rw [List.findIdx?_eq_some_iff_getElem] at h
    obtain ⟨hi, h1, h2⟩ := h
    refine ⟨by simpa using hi, ?_, fun j hj => ?_⟩
    · have h1' : (s.data[i]'(by simpa using hi)).toNat < 128 := by simpa [UInt8.lt_iff_toNat_lt] using h1
      exact h1'
    · have := h2 j hj
      have hi' : i < s.data.size := by simpa using hi
      have h2' : 128 ≤ (s.data[j]'(by omega)).toNat := by simpa [UInt8.lt_iff_toNat_lt] using this
      exact h2'
  | none =>
    refine .inr ⟨fun j hj => ?_, rfl⟩
    rw [List.findIdx?_eq_none_iff] at h
    have := h s[j] (by rw [← getD_byte s j hj]; exact List.getElem_mem _)
    simpa [UInt8.lt_iff_toNat_lt] using this
theorem valT_zero (s : ByteArray) : valT s 0 = 0 := rfl
theorem valT_succ (s : ByteArray) (i : Nat) (h : i < s.size) (h9 : i < 10) : valT s (i + 1) = valT s i + s[i].toNat % 128 * 128 ^ i % 18446744073709551616 ∧ valT s i < 128 ^ i ∧ 128 ^ i * 2 ≤ 18446744073709551616 := by
  unfold valT
  rw [bytes_snoc s i h, vals_append]
  have hl : (s.data.toList.take i).length = i := by simp; omega
  have hv := vals_lt (s.data.toList.take i)
  rw [hl] at hv ⊢
  have e : vals [s[i]] = s[i].toNat % 128 := by simp [vals]
  rw [e]
  have hp : 128 ^ i * 2 ≤ 18446744073709551616 := by
    have : 128 ^ i ≤ 128 ^ 9 := Nat.pow_le_pow_right (by decide) (by omega)
    omega
  generalize vals (s.data.toList.take i) = v at *
  have hm : v % 18446744073709551616 = v := Nat.mod_eq_of_lt (by omega)
  rw [hm]
  refine ⟨?_, hv, hp⟩
  rw [Nat.mul_comm (128 ^ i)]
  generalize s[i].toNat % 128 = x at *
  have hdv : ∃ q, 18446744073709551616 = 128 ^ i * q := by
    refine ⟨2 ^ (64 - 7 * i), ?_⟩
    rw [show (128 : Nat) = 2 ^ 7 from rfl, ← Nat.pow_mul, ← Nat.pow_add, show 7 * i + (64 - 7 * i) = 64 from by omega]
  obtain ⟨q, hq⟩ := hdv
  rw [hq, Nat.mul_comm x, Nat.mul_mod_mul_left, Nat.add_mod, Nat.mul_mod_mul_left, Nat.mod_eq_of_lt (show v < 128 ^ i * q from by rw [← hq]; omega)]
  have hq0 : 0 < q := by rcases Nat.eq_zero_or_pos q with rfl | h0; · simp at hq
                         · exact h0
  have hxq : x % q < q := Nat.mod_lt _ hq0
  apply Nat.mod_eq_of_lt
  have : 128 ^ i * (x % q) + 128 ^ i ≤ 128 ^ i * q := by rw [← Nat.mul_succ]; exact Nat.mul_le_mul_left _ hxq
  omega
theorem getR_hit {s : ByteArray} {i : Nat} (h : s.data.toList.findIdx? (fun b => b < 128) = some i) : getR s = if i < 10 ∧ packS (valT s (i + 1)) = s.extract 0 (i + 1) then (valT s (i + 1), s.extract (i + 1) s.size, 0) else (0, ⟨#[]⟩, 4) := by simp [getR, h]
theorem getR_none {s : ByteArray} (h : s.data.toList.findIdx? (fun b => b < 128) = none) : getR s = (0, ⟨#[]⟩, if s.size < 10 then 3 else 4) := by simp [getR, h]
/-- Where the number ends: e bytes stand before its last one. -/
structure Ends (s : ByteArray) (e : Nat) (r : Nat × ByteArray × Int) : Prop where
  le : e ≤ s.size
  big : ∀ j (hj : j < s.size), j < e → 128 ≤ s[j].toNat
  small : ∀ (h : e < s.size), s[e].toNat < 128
  res : getR s = r
theorem ends_any (s : ByteArray) : ∃ e r, Ends s e r ∧ (e < s.size → r = if e < 10 ∧ packS (valT s (e + 1)) = s.extract 0 (e + 1) then (valT s (e + 1), s.extract (e + 1) s.size, 0) else (0, ⟨#[]⟩, 4)) ∧ (e = s.size → r = (0, ⟨#[]⟩, if s.size < 10 then 3 else 4)) := by
  rcases cases_hit s with ⟨i, ⟨h1, h2, h3⟩, h4⟩ | ⟨h1, h2⟩
  · exact ⟨i, _, ⟨by omega, fun j _ hj => h3 j hj, fun _ => h2, rfl⟩, fun _ => getR_hit h4, fun h => by omega⟩
  · exact ⟨s.size, _, ⟨Nat.le_refl _, fun j hj _ => h1 j hj, fun h => absurd h (Nat.lt_irrefl _), rfl⟩, fun h => absurd h (Nat.lt_irrefl _), fun _ => getR_none h2⟩
set_option maxHeartbeats 2000000 in
set_option maxRecDepth 20000 in
theorem get_any (s : ByteArray) (w : World) (hs : s.size ≤ 140737488351232) :
    Calls Try.prog 61 #[.string s] w fun e w' => e = .returned (.tuple #[.int .u64 (getR s).1, .string (getR s).2.1, .int .i64 (getR s).2.2]) ∧ Below w.heap.size w w' := by
  obtain ⟨e, r, hE, hr1, hr2⟩ := ends_any s
  rw [hE.res]
  have HE := PLift.up hE
  have HR1 := PLift.up hr1
  have HR2 := PLift.up hr2
  have hle := hE.le
  clear hE hr1 hr2
  go_enter Try.func61, Try.ntmps61
  go_wp2_with fail
  go_loop [5, 6] (fun nv iv => ∃ k : Nat, k ≤ e ∧ k ≤ 10 ∧ iv = .int .i64 k ∧ nv = .int .u64 (valT s k)) (fun _ iv => 10 - (intOf iv).toNat)
  case atStart => exact ⟨0, by omega, by omega, rfl, by rw [valT_zero]; rfl⟩
  case round =>
    obtain ⟨k, hk, hk10, rfl, rfl⟩ := hrel
    by_cases hlt : k < 10
    · by_cases hks : k < s.size
      · obtain ⟨hv1, hv2, hv3⟩ := valT_succ s k hks hlt
        have hb : k < e → 128 ≤ s[k].toNat := fun h => HE.down.big k hks h
        have hsm : ¬ k < e → s[k].toNat < 128 := (fun h => by
          obtain rfl : k = e := by omega
          exact HE.down.small hks)
        have hx := UInt8.toNat_lt s[k]
        have hn : bits .or .u64 (valT s k : Nat) (IntKind.u64.wrap (IntKind.u64.wrap (bits .and .u8 (s[k].toNat : Int) 127) * 2 ^ (7 * k))) = ((valT s (k + 1) : Nat) : Int) := by
          rw [u8_and127 _ (by omega) (by omega), IntKind.wrap_u64, IntKind.wrap_u64, hv1]
          have e1 : ((s[k].toNat : Int) % 128 % 18446744073709551616) = ((s[k].toNat % 128 : Nat) : Int) := by omega
          have e2 : ((2 : Int) ^ (7 * k)) = ((128 ^ k : Nat) : Int) := by rw [show (128 : Nat) ^ k = 2 ^ (7 * k) from by rw [Nat.pow_mul]]; simp
          rw [e1, e2, ← Int.natCast_mul]
          have e3 : ((s[k].toNat % 128 * 128 ^ k : Nat) : Int) % 18446744073709551616 = ((s[k].toNat % 128 * 128 ^ k % 18446744073709551616 : Nat) : Int) := by omega
          rw [e3, u64_or_nat _ _ (by omega) (by omega)]
          congr 1
          rw [Nat.or_comm, nat_join (7 * k) _ _ ?_ ?_, Nat.add_comm]
          · rw [show (2 : Nat) ^ (7 * k) = 128 ^ k from by rw [Nat.pow_mul]]
            have hd : 128 ^ k ∣ 18446744073709551616 := by
              refine ⟨2 ^ (64 - 7 * k), ?_⟩
              rw [show (128 : Nat) = 2 ^ 7 from rfl, ← Nat.pow_mul, ← Nat.pow_add, show 7 * k + (64 - 7 * k) = 64 from by omega]
            rw [Nat.mod_mod_of_dvd _ hd]; exact Nat.mul_mod_left _ _
          · rw [show (2 : Nat) ^ (7 * k) = 128 ^ k from by rw [Nat.pow_mul]]; exact hv2
        have hvl : valT s (k + 1) < 18446744073709551616 := Nat.mod_lt _ (by decide)
        clear hv1 hv2 hv3
        by_cases hke : k < e
        · have hbx := hb hke
          clear hb hsm
          go_wp2_with fail
          go_round
          case rel => exact ⟨k + 1, by omega, by omega, by go_num, rfl⟩
          case measure => simp [intOf]; omega
        · have hsx := hsm hke
          obtain rfl : k = e := by omega
          clear hb hsm
          have hr := HR1.down hks
          have k0 : (0 : Int) ≤ (k : Int) + 1 := by omega
          have k1 : (k : Int) + 1 ≤ (s.size : Int) := by omega
          have k2 : IntKind.i64.wrap ((k : Int) + 1) = (k : Int) + 1 := IntWalk.i64_in _ (by omega)
          have k3 : ((k : Int) + 1).toNat = k + 1 := by omega
          by_cases hq : packS (valT s (k + 1)) = s.extract 0 (k + 1)
          · rw [if_pos ⟨hlt, hq⟩] at hr
            subst hr
            have P := PLift.up (fun w => put_any (valT s (k + 1)) hvl w)
            rw [hq] at P
            clear hq
            go_wp2_with fail
            go_region_held3 (fun _ => True) (trivial) (first | (go_at_call 67; refine (P.down _).mono ?_; rintro e w1 ⟨rfl, hb1⟩; have HB1 := PLift.up hb1; clear hb1))
            all_goals go_wp2_with fail
            all_goals (go_quiet (fail))
            all_goals go_wp2_with fail
            all_goals go_returns
            all_goals refine ⟨?_, ((Below.refl _ _).drew.trans HB1.down).drewn _⟩
            all_goals (simp; done)
          · rw [if_neg (fun h => hq h.2)] at hr
            subst hr
            have P := PLift.up (fun w => put_any (valT s (k + 1)) hvl w)
            generalize packS (valT s (k + 1)) = T at *
            have hne := str_ne hq
            clear hq
            go_wp2_with fail
            go_region_held3 (fun _ => True) (trivial) (first | (go_at_call 67; refine (P.down _).mono ?_; rintro e w1 ⟨rfl, hb1⟩; have HB1 := PLift.up hb1; clear hb1))
            all_goals go_wp2_with fail
            all_goals go_returns
            all_goals refine ⟨?_, (Below.refl _ _).drew.trans HB1.down⟩
            all_goals (simp; done)
      · have hr := HR2.down (by omega)
        have hif : (if s.size < 10 then (3 : Int) else 4) = 3 := if_pos (by omega)
        rw [hif] at hr
        subst hr
        go_wp2_with fail
        go_returns
        exact ⟨rfl, Below.refl _ _⟩
    · by_cases hks : k < s.size
      · have hr : r = (0, ⟨#[]⟩, 4) := by
          by_cases he : e < s.size
          · rw [HR1.down he, if_neg (by omega)]
          · rw [HR2.down (by omega), if_neg (by omega)]
        subst hr
        go_wp2_with fail
        go_returns
        exact ⟨rfl, Below.refl _ _⟩
      · have hr := HR2.down (by omega)
        have hif : (if s.size < 10 then (3 : Int) else 4) = 4 := if_neg (by omega)
        rw [hif] at hr
        subst hr
        go_wp2_with fail
        go_returns
        exact ⟨rfl, Below.refl _ _⟩
end Go.Proofs.Ytemogefcbemjfaa
