/- Package tree: leaves and pairs, the reference's too. -/
import Derived.Test.YtibknlfadoeglaaMarkW
import Derived.Lib.VarintBits
import Derived.Lib.ConvBytes
import Derived.Laws.IdiomStrings
namespace Go.Proofs.Ytibknlfadoeglaa
set_option linter.all false
open Go.RowKit
def mb (m : Nat) (b : UInt8) : Nat := mx (m ^^^ b.toNat)
theorem mb_lt (m : Nat) (b : UInt8) : mb m b < 18446744073709551616 := mx_lt _
def lf (m : Nat) : List UInt8 → Nat
  | [] => m
  | b :: l => lf (mb m b) l
theorem lf_snoc (m : Nat) (l : List UInt8) (b : UInt8) : lf m (l ++ [b]) = mb (lf m l) b := by
  induction l generalizing m with
  | nil => simp only [List.nil_append, lf]
  | cons c l ih => simp only [List.cons_append, lf, ih]
theorem lf_lt (l : List UInt8) : ∀ m, m < 18446744073709551616 → lf m l < 18446744073709551616 := by
  induction l with
  | nil => intro m h; rw [lf]; exact h
  | cons b l ih => intro m _; rw [lf]; exact ih _ (mb_lt _ _)
def mz (n : Nat) : Nat := mx n
theorem mz_lt (n : Nat) : mz n < 18446744073709551616 := mx_lt _
def leafN (s : ByteArray) : Nat := lf (mz s.size) s.data.toList
theorem leafN_lt (s : ByteArray) : leafN s < 18446744073709551616 := lf_lt _ _ (mz_lt _)
theorem mix_z (n : Nat) (w : World) : Calls Try.prog 163 #[.int .u64 n] w fun e w' => e = .returned (.int .u64 (mz n : Nat)) ∧ w = w' := mix_any n w
theorem mix_b (m : Nat) (b : UInt8) (w : World) : Calls Try.prog 163 #[.int .u64 (m ^^^ b.toNat : Nat)] w fun e w' => e = .returned (.int .u64 (mb m b : Nat)) ∧ w = w' := mix_any _ w
theorem mixed_z (n : Nat) (w : World) : Calls Try.prog 164 #[.int .u64 n] w fun e w' => e = .returned (.int .u64 (mz n : Nat)) ∧ w = w' := mixed_any n w
theorem mixed_b (m : Nat) (b : UInt8) (w : World) : Calls Try.prog 164 #[.int .u64 (m ^^^ b.toNat : Nat)] w fun e w' => e = .returned (.int .u64 (mb m b : Nat)) ∧ w = w' := mixed_any _ w
def rot32 (b : Nat) : Nat := b / 4294967296 + b % 4294967296 * 4294967296
theorem rot32_lt (b : Nat) (h : b < 18446744073709551616) : rot32 b < 18446744073709551616 := by unfold rot32; omega
def pa1 (a b : Nat) : Nat := mx (a ^^^ rot32 b ^^^ 1)
theorem pa1_lt (a b : Nat) : pa1 a b < 18446744073709551616 := mx_lt _
def pairN (a b : Nat) : Nat := mx (pa1 a b ^^^ b)
theorem pairN_lt (a b : Nat) : pairN a b < 18446744073709551616 := mx_lt _
set_option maxRecDepth 20000 in
set_option maxHeartbeats 1000000 in
theorem leaf_any (s : ByteArray) (w : World) (hs : s.size ≤ 140737488351232) :
    Calls Try.prog 99 #[.string s] w fun e w' => e = .returned (.int .u64 (leafN s : Nat)) ∧ w = w' := by
  have hu : IntKind.u64.wrap (s.size : Int) = s.size := by rw [IntKind.wrap_u64]; omega
  go_enter Try.func99, Try.ntmps99
  go_wp2_with fail
  refine (mix_z _ _).mono ?_
  rintro e w' ⟨rfl, rfl⟩
  clear hu
  go_wp2_with fail
  go_loop [3, 11] (fun mv iv => ∃ k : Nat, k ≤ s.size ∧ iv = .int .i64 k ∧ mv = .int .u64 (lf (mz s.size) (s.data.toList.take k) : Nat)) (fun _ iv => s.size - (intOf iv).toNat)
  case atStart => exact ⟨0, by omega, rfl, by rw [List.take_zero, lf]⟩
  case round =>
    obtain ⟨k, hk, rfl, rfl⟩ := hrel
    have hl := lf_lt (s.data.toList.take k) _ (mz_lt s.size)
    by_cases h8 : k < s.size
    · have hs1 : lf (mz s.size) (s.data.toList.take (k + 1)) = mb (lf (mz s.size) (s.data.toList.take k)) s[k] := by rw [bytes_snoc s k h8, lf_snoc]
      generalize lf (mz s.size) (s.data.toList.take k) = y at *
      have HS := PLift.up hs1; clear hs1
      have hx := UInt8.toNat_lt s[k]
      have hc : IntKind.u64.wrap (s[k].toNat : Int) = (s[k].toNat : Int) := by rw [IntKind.wrap_u64]; omega
      have hxo := xorN y s[k].toNat hl (by omega)
      go_wp2_with fail
      refine (mix_b _ _ _).mono ?_
      rintro e w' ⟨rfl, rfl⟩
      rw [← HS.down]
      clear hxo hc
      go_wp2_with fail
      go_round
      case rel => exact ⟨k + 1, by omega, by go_num, rfl⟩
      case measure => simp [intOf]; omega
    · obtain rfl : k = s.size := by omega
      have hf : lf (mz s.size) (s.data.toList.take s.size) = leafN s := by rw [take_all, leafN]
      rw [hf]
      clear hf hl
      go_wp2_with fail
      go_returns
      exact ⟨rfl, rfl⟩
set_option maxRecDepth 20000 in
set_option maxHeartbeats 1000000 in
theorem leafOf_any (s : ByteArray) (w : World) (hs : s.size ≤ 140737488351232) :
    Calls Try.prog 100 #[.string s] w fun e w' => e = .returned (.int .u64 (leafN s : Nat)) ∧ Below w.heap.size w w' := by
  have hu : IntKind.u64.wrap (s.size : Int) = s.size := by rw [IntKind.wrap_u64]; omega
  have hcv := fun w => Lib.run_convert_string_bytes (P := Try.prog) w 9 235 5 s Try.underlying9 Try.underlying235 Try.underlying5
  go_enter Try.func100, Try.ntmps100
  go_wp2_with fail
  refine (mixed_z _ _).mono ?_
  rintro e w' ⟨rfl, rfl⟩
  clear hu
  go_wp2_with fail
  have hcell := fun j hj => Lib.bytesWorld_cell w 5 s j hj
  have hbw : Below w.heap.size w (Lib.bytesWorld w 5 s) := ⟨rfl, rfl, rfl, by rw [Lib.bytesWorld_size]; omega, fun k hk => Lib.bytesWorld_at_old w _ s k hk⟩
  obtain ⟨W, hW⟩ : ∃ W, W = Lib.bytesWorld w 5 s := ⟨_, rfl⟩
  rw [← hW] at hcell hbw ⊢
  generalize grownCap w s.size 0 5 = cp
  have HC := PLift.up hcell
  have HB := PLift.up hbw
  clear hcell hbw hW hcv
  go_loop [3, 13] (fun mv iv => ∃ k : Nat, k ≤ s.size ∧ iv = .int .i64 k ∧ mv = .int .u64 (lf (mz s.size) (s.data.toList.take k) : Nat)) (fun _ iv => s.size - (intOf iv).toNat)
  case atStart => exact ⟨0, by omega, rfl, by rw [List.take_zero, lf]⟩
  case round =>
    obtain ⟨k, hk, rfl, rfl⟩ := hrel
    have hl := lf_lt (s.data.toList.take k) _ (mz_lt s.size)
    by_cases h8 : k < s.size
    · have hs1 : lf (mz s.size) (s.data.toList.take (k + 1)) = mb (lf (mz s.size) (s.data.toList.take k)) s[k] := by rw [bytes_snoc s k h8, lf_snoc]
      generalize lf (mz s.size) (s.data.toList.take k) = y at *
      have HS := PLift.up hs1; clear hs1
      have hc := HC.down k h8
      have he : (s.data.toList.getD k 0) = s[k] := by
        rw [List.getD_eq_getElem?_getD, List.getElem?_eq_getElem (by simpa using h8)]; rfl
      rw [he] at hc
      have hx := UInt8.toNat_lt s[k]
      have hcu : IntKind.u64.wrap (s[k].toNat : Int) = (s[k].toNat : Int) := by rw [IntKind.wrap_u64]; omega
      have hxo := xorN y s[k].toNat hl (by omega)
      clear he
      go_wp2_with fail
      refine (mixed_b _ _ _).mono ?_
      rintro e w' ⟨rfl, rfl⟩
      rw [← HS.down]
      clear hxo hcu hc
      go_wp2_with fail
      go_round
      case rel => exact ⟨k + 1, by omega, by go_num, rfl⟩
      case measure => simp [intOf]; omega
    · obtain rfl : k = s.size := by omega
      have hf : lf (mz s.size) (s.data.toList.take s.size) = leafN s := by rw [take_all, leafN]
      rw [hf]
      clear hf hl
      go_wp2_with fail
      go_returns
      exact ⟨rfl, HB.down⟩
set_option maxRecDepth 20000 in
set_option maxHeartbeats 1000000 in
theorem rot_any (b : Nat) (hb : b < 18446744073709551616) (w : World) :
    Calls Try.prog 201 #[.int .u64 b, .int .i64 32] w fun e w' => e = .returned (.int .u64 (rot32 b : Nat)) ∧ w = w' := by
  have hand : bits .and .u64 32 63 = 32 := by decide +kernel
  go_enter Try.func201, Try.ntmps201
  go_wp2_with fail
  go_returns
  refine ⟨ret_u64 ?_, rfl⟩
  show bits .or .u64 (IntKind.u64.wrap ((b : Int) * 4294967296)) ((b : Int) / 4294967296) = _
  have e1 : IntKind.u64.wrap ((b : Int) * 4294967296) = ((b % 4294967296 * 4294967296 : Nat) : Int) := by rw [IntKind.wrap_u64]; omega
  have e2 : (b : Int) / 4294967296 = ((b / 4294967296 : Nat) : Int) := by omega
  rw [e1, e2, u64_or_nat _ _ (by omega) (by omega)]
  congr 1
  have hlt : b / 4294967296 < 2 ^ 32 := by omega
  have hmd : b % 4294967296 * 4294967296 % 2 ^ 32 = 0 := Nat.mul_mod_left _ _
  rw [nat_join 32 _ _ hmd hlt]
  unfold rot32; omega
set_option maxRecDepth 20000 in
set_option maxHeartbeats 1000000 in
theorem pair_any (a b : Nat) (ha : a < 18446744073709551616) (hb : b < 18446744073709551616) (w : World) :
    Calls Try.prog 162 #[.int .u64 a, .int .u64 b] w fun e w' => e = .returned (.int .u64 (pairN a b : Nat)) ∧ w = w' := by
  have hr := rot32_lt b hb
  have h1 := xorN a (rot32 b) ha hr
  have h2 : bits .xor .u64 ((a ^^^ rot32 b : Nat) : Int) 1 = ((a ^^^ rot32 b ^^^ 1 : Nat) : Int) := xorN (a ^^^ rot32 b) 1 (xorN_lt _ _ ha hr) (by decide)
  have h3 := xorN (pa1 a b) b (pa1_lt a b) hb
  have M1 : PLift (∀ w, Calls Try.prog 163 #[.int .u64 (a ^^^ rot32 b ^^^ 1 : Nat)] w fun e w' => e = .returned (.int .u64 (pa1 a b : Nat)) ∧ w = w') := PLift.up (fun w => mix_any _ w)
  have M2 : PLift (∀ w, Calls Try.prog 163 #[.int .u64 (pa1 a b ^^^ b : Nat)] w fun e w' => e = .returned (.int .u64 (pairN a b : Nat)) ∧ w = w') := PLift.up (fun w => mix_any _ w)
  have R := PLift.up (fun w => rot_any b hb w)
  go_enter Try.func162, Try.ntmps162
  go_wp2_with fail
  (with_reducible refine (R.down _).mono ?_)
  rintro e w' ⟨rfl, rfl⟩
  go_wp2_with fail
  (with_reducible refine (M1.down _).mono ?_)
  rintro e w' ⟨rfl, rfl⟩
  go_wp2_with fail
  (with_reducible refine (M2.down _).mono ?_)
  rintro e w' ⟨rfl, rfl⟩
  go_wp2_with fail
  go_returns
  exact ⟨rfl, rfl⟩
set_option maxRecDepth 20000 in
set_option maxHeartbeats 1000000 in
theorem pairOf_any (a b : Nat) (ha : a < 18446744073709551616) (hb : b < 18446744073709551616) (w : World) :
    Calls Try.prog 102 #[.int .u64 a, .int .u64 b] w fun e w' => e = .returned (.int .u64 (pairN a b : Nat)) ∧ w = w' := by
  have hr := rot32_lt b hb
  have h0 : (b : Int) / 4294967296 + (b : Int) % 4294967296 * 4294967296 = ((rot32 b : Nat) : Int) := by unfold rot32; omega
  have h1 := xorN a (rot32 b) ha hr
  have h2 : bits .xor .u64 ((a ^^^ rot32 b : Nat) : Int) 1 = ((a ^^^ rot32 b ^^^ 1 : Nat) : Int) := xorN (a ^^^ rot32 b) 1 (xorN_lt _ _ ha hr) (by decide)
  have h3 := xorN (pa1 a b) b (pa1_lt a b) hb
  have M1 : PLift (∀ w, Calls Try.prog 164 #[.int .u64 (a ^^^ rot32 b ^^^ 1 : Nat)] w fun e w' => e = .returned (.int .u64 (pa1 a b : Nat)) ∧ w = w') := PLift.up (fun w => mixed_any _ w)
  have M2 : PLift (∀ w, Calls Try.prog 164 #[.int .u64 (pa1 a b ^^^ b : Nat)] w fun e w' => e = .returned (.int .u64 (pairN a b : Nat)) ∧ w = w') := PLift.up (fun w => mixed_any _ w)
  go_enter Try.func102, Try.ntmps102
  go_wp2_with fail
  (with_reducible refine (M1.down _).mono ?_)
  rintro e w' ⟨rfl, rfl⟩
  go_wp2_with fail
  (with_reducible refine (M2.down _).mono ?_)
  rintro e w' ⟨rfl, rfl⟩
  go_wp2_with fail
  go_returns
  exact ⟨rfl, rfl⟩
end Go.Proofs.Ytibknlfadoeglaa
