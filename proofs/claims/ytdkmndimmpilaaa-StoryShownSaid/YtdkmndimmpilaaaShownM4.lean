/- Lemmas for the proof of storyShown.proved. -/
import Derived.Test.YtdkmndimmpilaaaShownM3
import Derived.Lib.VarintBits
import Derived.Lib.ConvBytes
import Derived.Laws.IdiomStrings
import Derived.Shelf.Strings.Builder1
import Derived.Shelf.Small.Bits
import Derived.Shelf.Small.Wraps
import Derived.Shelf.Strings.BuilderF
import Derived.Shelf.Strconv.Itoa0
import Derived.Ground.Names2Prog
import Derived.Shelf.Slices.SearchI
import Derived.Shelf.Slices.Delete
import Derived.Shelf.Slices.Empties
import Derived.Test.YtdkmndimmpilaaaProg
import Derived.Deep.QuietTactic
import Derived.BigQuiet
import Derived.Laws.Concat
import Derived.Lib.Zigzag
import Derived.Laws.BytesString
import Derived.Lib.Varint
import Derived.Deep.RegionHeld3
namespace Go.Proofs.Ytdkmndimmpilaaa
set_option linter.all false
open Go.RowKit
def xsh (X s : Nat) : Nat := X ^^^ X / s
def mxA (n : Nat) : Nat := (n + 11400714819323198485) % 18446744073709551616
def mxB (n : Nat) : Nat := xsh (mxA n) 1073741824 * 13787848793156543929 % 18446744073709551616
def mxC (n : Nat) : Nat := xsh (mxB n) 134217728 * 10723151780598845931 % 18446744073709551616
def mx (n : Nat) : Nat := xsh (mxC n) 2147483648
theorem xsh_lt (X s : Nat) (h : X < 18446744073709551616) : xsh X s < 18446744073709551616 := by
 have hd : X / s ≤ X := Nat.div_le_self _ _
 exact Nat.xor_lt_two_pow (n := 64) h (by omega)
theorem mxA_lt (n : Nat) : mxA n < 18446744073709551616 := Nat.mod_lt _ (by decide)
theorem mxB_lt (n : Nat) : mxB n < 18446744073709551616 := Nat.mod_lt _ (by decide)
theorem mxC_lt (n : Nat) : mxC n < 18446744073709551616 := Nat.mod_lt _ (by decide)
theorem mx_lt (n : Nat) : mx n < 18446744073709551616 := xsh_lt _ _ (mxC_lt n)
theorem mxA_eq (n : Nat) : IntKind.u64.wrap ((n : Int) + 11400714819323198485) = (mxA n : Int) := by
 rw [IntKind.wrap_u64]; unfold mxA; rw [Int.natCast_emod, Int.natCast_add]; rfl
theorem xor_eq (X s : Nat) (h : X < 18446744073709551616) : bits .xor .u64 (X : Int) ((X : Int) / (s : Int)) = (xsh X s : Int) := xorShift_u64 X s h
theorem mxB_eq (n : Nat) : IntKind.u64.wrap (bits .xor .u64 (mxA n : Int) ((mxA n : Int) / 1073741824) * 13787848793156543929) = (mxB n : Int) := mixStep_u64 _ 1073741824 13787848793156543929 (mxA_lt n)
theorem mxC_eq (n : Nat) : IntKind.u64.wrap (bits .xor .u64 (mxB n : Int) ((mxB n : Int) / 134217728) * 10723151780598845931) = (mxC n : Int) := mixStep_u64 _ 134217728 10723151780598845931 (mxB_lt n)
theorem t64_step (a b P Q : Nat) (p : Int) (hp : p = (P : Int)) (hQ : Q = P * 65536) :
 IntKind.u64.wrap ((b : Int) * ((a : Int) % p) % 18446744073709551616 + IntKind.u64.wrap (IntKind.u64.wrap ((b : Int) * ((a : Int) / p % 65536)) * p)) = ((b * (a % Q) % 18446744073709551616 : Nat) : Int) := by
 subst hp hQ
 simp only [IntKind.wrap_u64]
 have e : ((b : Int) * ((a : Int) % (P : Int)) % 18446744073709551616 + ((b : Int) * ((a : Int) / (P : Int) % 65536)) % 18446744073709551616 * (P : Int) % 18446744073709551616) % 18446744073709551616 = (((b * (a % P) % 18446744073709551616 + (b * (a / P % 65536)) % 18446744073709551616 * P % 18446744073709551616) % 18446744073709551616 : Nat) : Int) := by simp only [Int.natCast_emod, Int.natCast_add, Int.natCast_mul, Int.natCast_ediv]; rfl
 rw [e]
 congr 1
 simp only [Nat.add_mod_mod, Nat.mod_add_mod, Nat.mod_mul_mod]
 congr 1
 rw [Nat.mod_mul, Nat.mul_add, Nat.mul_assoc, Nat.mul_comm P]
theorem t64_first (a b : Nat) : IntKind.u64.wrap (IntKind.u64.wrap (IntKind.u64.wrap ((b : Int) * ((a : Int) % 65536)))) = ((b * (a % 65536) % 18446744073709551616 : Nat) : Int) := by
 simp only [IntKind.wrap_u64, Int.emod_emod]
 simp only [Int.natCast_emod, Int.natCast_mul]; rfl
set_option maxHeartbeats 800000 in
theorem mix_any (n : Nat) (w : World) :
 Calls Try.prog 101 #[.int .u64 n] w fun e w' => e = .returned (.int .u64 (mx n)) ∧ w = w' := by
 go_enter Try.func101, Try.ntmps101
 go_wp2
 go_ret
 refine ⟨ret_u64 ?_, rfl⟩
 rw [mxA_eq, mxB_eq, mxC_eq]
 exact xor_eq (mxC n) 2147483648 (mxC_lt n)
set_option maxHeartbeats 800000 in
theorem times_any (a b : Nat) (ha : a < 18446744073709551616) (w : World) :
 Calls Try.prog 102 #[.int .u64 a, .int .u64 b] w fun e w' => e = .returned (.int .u64 (b * a % 18446744073709551616 : Nat)) ∧ w = w' := by
 go_enter Try.func102, Try.ntmps102
 go_wp2_with fail
 go_loop [5, 8] (fun o i => ∃ k : Nat, k ≤ 4 ∧ i = .int .i64 k ∧ o = .int .u64 (b * (a % 2 ^ (16 * k)) % 18446744073709551616 : Nat)) (fun _ i => 4 - (intOf i).toNat)
 case atStart => exact ⟨0, by omega, rfl, by simp [Nat.mod_one]⟩
 case round =>
  obtain ⟨k, hk, rfl, rfl⟩ := hrel
  by_cases h4 : k = 4
  ·subst h4
   go_wp2_with fail
   go_ret
   refine ⟨ret_u64 ?_, rfl⟩
   rfl
  ·have hk4 : k = 0 ∨ k = 1 ∨ k = 2 ∨ k = 3 := by omega
   clear hk h4
   rcases hk4 with rfl | rfl | rfl | rfl
   all_goals
    go_wp2_with fail
    go_round
    case measure => simp [intOf]
   case rel => exact ⟨1, by omega, rfl, congrArg (Value.int .u64) (t64_first a b)⟩
   case rel => exact ⟨2, by omega, rfl, congrArg (Value.int .u64) (t64_step a b 65536 _ _ rfl (by decide))⟩
   case rel => exact ⟨3, by omega, rfl, congrArg (Value.int .u64) (t64_step a b 4294967296 _ _ rfl (by decide))⟩
   case rel => exact ⟨4, by omega, rfl, congrArg (Value.int .u64) (t64_step a b 281474976710656 _ _ rfl (by decide))⟩
theorem xorq_eq (X S : Nat) (s : Int) (hs : s = (S : Int)) (h : X < 18446744073709551616) : bits .xor .u64 (X : Int) (IntKind.u64.wrap ((X : Int).tdiv s)) = (xsh X S : Int) := by
 subst hs
 have e : IntKind.u64.wrap ((X : Int).tdiv (S : Int)) = (X : Int) / (S : Int) := by
  rw [Int.tdiv_eq_ediv_of_nonneg (by omega), ← Int.natCast_ediv, IntKind.wrap_u64]
  have hd : X / S ≤ X := Nat.div_le_self _ _
  generalize X / S = q at hd
  omega
 rw [e]; exact xor_eq X S h
theorem xorw_eq (X S : Nat) (s : Int) (hs : s = (S : Int)) (h : X < 18446744073709551616) : bits .xor .u64 (X : Int) (IntKind.u64.wrap ((X : Int) / s)) = (xsh X S : Int) := by
 rw [← xorq_eq X S s hs h, Int.tdiv_eq_ediv_of_nonneg (by omega)]
set_option maxHeartbeats 800000 in
theorem mixed_any (n : Nat) (w : World) :
 Calls Try.prog 88 #[.int .u64 n] w fun e w' => e = .returned (.int .u64 (mx n)) ∧ w = w' := by
 go_enter Try.func88, Try.ntmps88
 go_wp2_with fail
 rw [mxA_eq, xorq_eq (mxA n) 1073741824 1073741824 rfl (mxA_lt n)]
 refine (times_any _ 13787848793156543929 (xsh_lt _ _ (mxA_lt n)) _).mono ?_
 rintro e w' ⟨rfl, rfl⟩
 rw [show (13787848793156543929 * xsh (mxA n) 1073741824 % 18446744073709551616) = mxB n from by rw [Nat.mul_comm]; rfl]
 go_wp2_with fail
 rw [xorw_eq (mxB n) 134217728 134217728 rfl (mxB_lt n)]
 refine (times_any _ 10723151780598845931 (xsh_lt _ _ (mxB_lt n)) _).mono ?_
 rintro e w' ⟨rfl, rfl⟩
 rw [show (10723151780598845931 * xsh (mxB n) 134217728 % 18446744073709551616) = mxC n from by rw [Nat.mul_comm]; rfl]
 go_wp2_with fail
 go_ret
 exact ⟨ret_u64 (xorw_eq (mxC n) 2147483648 2147483648 rfl (mxC_lt n)), rfl⟩
theorem xorN (a b : Nat) (ha : a < 18446744073709551616) (hb : b < 18446744073709551616) : bits .xor .u64 (a : Int) (b : Int) = ((a ^^^ b : Nat) : Int) := bits_xor_u64_nat a b ha hb
theorem xorN_lt (a b : Nat) (ha : a < 18446744073709551616) (hb : b < 18446744073709551616) : a ^^^ b < 18446744073709551616 := Nat.xor_lt_two_pow (n := 64) ha hb
end Go.Proofs.Ytdkmndimmpilaaa
namespace Go.Proofs.Ytdkmndimmpilaaa
set_option linter.all false
open Go.RowKit
def mb (m : Nat) (b : UInt8) : Nat := mx (m ^^^ b.toNat)
theorem mb_lt (m : Nat) (b : UInt8) : mb m b < 18446744073709551616 := mx_lt _
def lf (m : Nat) : List UInt8 → Nat
 | [] => m
 | b :: l => lf (mb m b) l
theorem lf_snoc (m : Nat) (l : List UInt8) (b : UInt8) : lf m (l ++ [b]) = mb (lf m l) b := by
 induction l generalizing m with
 | nil => simp only [List.nil_append, lf]
 | cons c l ih => simp only [List.cons_append, lf, ih]
theorem lf_lt (l : List UInt8) : ∀ m, m < 18446744073709551616 → lf m l < 18446744073709551616 := by
 induction l with
 | nil => intro m h; rw [lf]; exact h
 | cons b l ih => intro m _; rw [lf]; exact ih _ (mb_lt _ _)
def mz (n : Nat) : Nat := mx n
theorem mz_lt (n : Nat) : mz n < 18446744073709551616 := mx_lt _
def leafN (s : ByteArray) : Nat := lf (mz s.size) s.data.toList
theorem leafN_lt (s : ByteArray) : leafN s < 18446744073709551616 := lf_lt _ _ (mz_lt _)
theorem mix_z (n : Nat) (w : World) : Calls Try.prog 101 #[.int .u64 n] w fun e w' => e = .returned (.int .u64 (mz n : Nat)) ∧ w = w' := mix_any n w
theorem mix_b (m : Nat) (b : UInt8) (w : World) : Calls Try.prog 101 #[.int .u64 (m ^^^ b.toNat : Nat)] w fun e w' => e = .returned (.int .u64 (mb m b : Nat)) ∧ w = w' := mix_any _ w
theorem mixed_z (n : Nat) (w : World) : Calls Try.prog 88 #[.int .u64 n] w fun e w' => e = .returned (.int .u64 (mz n : Nat)) ∧ w = w' := mixed_any n w
theorem mixed_b (m : Nat) (b : UInt8) (w : World) : Calls Try.prog 88 #[.int .u64 (m ^^^ b.toNat : Nat)] w fun e w' => e = .returned (.int .u64 (mb m b : Nat)) ∧ w = w' := mixed_any _ w
def rot32 (b : Nat) : Nat := b / 4294967296 + b % 4294967296 * 4294967296
theorem rot32_lt (b : Nat) (h : b < 18446744073709551616) : rot32 b < 18446744073709551616 := by unfold rot32; omega
def pa1 (a b : Nat) : Nat := mx (a ^^^ rot32 b ^^^ 1)
theorem pa1_lt (a b : Nat) : pa1 a b < 18446744073709551616 := mx_lt _
def pairN (a b : Nat) : Nat := mx (pa1 a b ^^^ b)
theorem pairN_lt (a b : Nat) : pairN a b < 18446744073709551616 := mx_lt _
set_option maxRecDepth 20000 in
set_option maxHeartbeats 1000000 in
theorem leaf_any (s : ByteArray) (w : World) (hs : s.size ≤ 140737488351232) :
 Calls Try.prog 87 #[.string s] w fun e w' => e = .returned (.int .u64 (leafN s : Nat)) ∧ w = w' := by
 have hu : IntKind.u64.wrap (s.size : Int) = s.size := by rw [IntKind.wrap_u64]; omega
 go_enter Try.func87, Try.ntmps87
 go_wp2_with fail
 refine (mix_z _ _).mono ?_
 rintro e w' ⟨rfl, rfl⟩
 clear hu
 go_wp2_with fail
 go_loop [3, 11] (fun mv iv => ∃ k : Nat, k ≤ s.size ∧ iv = .int .i64 k ∧ mv = .int .u64 (lf (mz s.size) (s.data.toList.take k) : Nat)) (fun _ iv => s.size - (intOf iv).toNat)
 case atStart => exact ⟨0, by omega, rfl, by rw [List.take_zero, lf]⟩
 case round =>
  obtain ⟨k, hk, rfl, rfl⟩ := hrel
  have hl := lf_lt (s.data.toList.take k) _ (mz_lt s.size)
  by_cases h8 : k < s.size
  ·have hs1 : lf (mz s.size) (s.data.toList.take (k + 1)) = mb (lf (mz s.size) (s.data.toList.take k)) s[k] := by rw [bytes_snoc s k h8, lf_snoc]
   generalize lf (mz s.size) (s.data.toList.take k) = y at *
   have HS := PLift.up hs1; clear hs1
   have hx := UInt8.toNat_lt s[k]
   have hc : IntKind.u64.wrap (s[k].toNat : Int) = (s[k].toNat : Int) := by rw [IntKind.wrap_u64]; omega
   have hxo := xorN y s[k].toNat hl (by omega)
   go_wp2_with fail
   refine (mix_b _ _ _).mono ?_
   rintro e w' ⟨rfl, rfl⟩
   rw [← HS.down]
   clear hxo hc
   go_wp2_with fail
   go_round
   case rel => exact ⟨k + 1, by omega, by go_num, rfl⟩
   case measure => simp [intOf]; omega
  ·obtain rfl : k = s.size := by omega
   have hf : lf (mz s.size) (s.data.toList.take s.size) = leafN s := by rw [take_all, leafN]
   rw [hf]
   clear hf hl
   go_wp2_with fail
   go_returns
   exact ⟨rfl, rfl⟩
set_option maxRecDepth 20000 in
set_option maxHeartbeats 1000000 in
theorem leafOf_any (s : ByteArray) (w : World) (hs : s.size ≤ 140737488351232) :
 Calls Try.prog 57 #[.string s] w fun e w' => e = .returned (.int .u64 (leafN s : Nat)) ∧ Below w.heap.size w w' := by
 have hu : IntKind.u64.wrap (s.size : Int) = s.size := by rw [IntKind.wrap_u64]; omega
 have hcv := fun w => Lib.run_convert_string_bytes (P := Try.prog) w 9 111 5 s Try.underlying9 Try.underlying111 Try.underlying5
 go_enter Try.func57, Try.ntmps57
 go_wp2_with fail
 refine (mixed_z _ _).mono ?_
 rintro e w' ⟨rfl, rfl⟩
 clear hu
 go_wp2_with fail
 have hcell := fun j hj => Lib.bytesWorld_cell w 5 s j hj
 have hbw : Below w.heap.size w (Lib.bytesWorld w 5 s) := ⟨rfl, rfl, rfl, by rw [Lib.bytesWorld_size]; omega, fun k hk => Lib.bytesWorld_at_old w _ s k hk⟩
 obtain ⟨W, hW⟩ : ∃ W, W = Lib.bytesWorld w 5 s := ⟨_, rfl⟩
 rw [← hW] at hcell hbw ⊢
 generalize grownCap w s.size 0 5 = cp
 have HC := PLift.up hcell
 have HB := PLift.up hbw
 clear hcell hbw hW hcv
 go_loop [3, 13] (fun mv iv => ∃ k : Nat, k ≤ s.size ∧ iv = .int .i64 k ∧ mv = .int .u64 (lf (mz s.size) (s.data.toList.take k) : Nat)) (fun _ iv => s.size - (intOf iv).toNat)
 case atStart => exact ⟨0, by omega, rfl, by rw [List.take_zero, lf]⟩
 case round =>
  obtain ⟨k, hk, rfl, rfl⟩ := hrel
  have hl := lf_lt (s.data.toList.take k) _ (mz_lt s.size)
  by_cases h8 : k < s.size
  ·have hs1 : lf (mz s.size) (s.data.toList.take (k + 1)) = mb (lf (mz s.size) (s.data.toList.take k)) s[k] := by rw [bytes_snoc s k h8, lf_snoc]
   generalize lf (mz s.size) (s.data.toList.take k) = y at *
   have HS := PLift.up hs1; clear hs1
   have hc := HC.down k h8
   have he : (s.data.toList.getD k 0) = s[k] := by
    rw [List.getD_eq_getElem?_getD, List.getElem?_eq_getElem (by simpa using h8)]; rfl
   rw [he] at hc
   have hx := UInt8.toNat_lt s[k]
   have hcu : IntKind.u64.wrap (s[k].toNat : Int) = (s[k].toNat : Int) := by rw [IntKind.wrap_u64]; omega
   have hxo := xorN y s[k].toNat hl (by omega)
   clear he
   go_wp2_with fail
   refine (mixed_b _ _ _).mono ?_
   rintro e w' ⟨rfl, rfl⟩
   rw [← HS.down]
   clear hxo hcu hc
   go_wp2_with fail
   go_round
   case rel => exact ⟨k + 1, by omega, by go_num, rfl⟩
   case measure => simp [intOf]; omega
  ·obtain rfl : k = s.size := by omega
   have hf : lf (mz s.size) (s.data.toList.take s.size) = leafN s := by rw [take_all, leafN]
   rw [hf]
   clear hf hl
   go_wp2_with fail
   go_returns
   exact ⟨rfl, HB.down⟩
set_option maxRecDepth 20000 in
set_option maxHeartbeats 1000000 in
theorem rot_any (b : Nat) (hb : b < 18446744073709551616) (w : World) :
 Calls Try.prog 110 #[.int .u64 b, .int .i64 32] w fun e w' => e = .returned (.int .u64 (rot32 b : Nat)) ∧ w = w' := by
 have hand : bits .and .u64 32 63 = 32 := by decide +kernel
 go_enter Try.func110, Try.ntmps110
 go_wp2_with fail
 go_returns
 refine ⟨ret_u64 ?_, rfl⟩
 show bits .or .u64 (IntKind.u64.wrap ((b : Int) * 4294967296)) ((b : Int) / 4294967296) = _
 have e1 : IntKind.u64.wrap ((b : Int) * 4294967296) = ((b % 4294967296 * 4294967296 : Nat) : Int) := by rw [IntKind.wrap_u64]; omega
 have e2 : (b : Int) / 4294967296 = ((b / 4294967296 : Nat) : Int) := by omega
 rw [e1, e2, u64_or_nat _ _ (by omega) (by omega)]
 congr 1
 have hlt : b / 4294967296 < 2 ^ 32 := by omega
 have hmd : b % 4294967296 * 4294967296 % 2 ^ 32 = 0 := Nat.mul_mod_left _ _
 rw [nat_join 32 _ _ hmd hlt]
 unfold rot32; omega
set_option maxRecDepth 20000 in
set_option maxHeartbeats 1000000 in
theorem pair_any (a b : Nat) (ha : a < 18446744073709551616) (hb : b < 18446744073709551616) (w : World) :
 Calls Try.prog 100 #[.int .u64 a, .int .u64 b] w fun e w' => e = .returned (.int .u64 (pairN a b : Nat)) ∧ w = w' := by
 have hr := rot32_lt b hb
 have h1 := xorN a (rot32 b) ha hr
 have h2 : bits .xor .u64 ((a ^^^ rot32 b : Nat) : Int) 1 = ((a ^^^ rot32 b ^^^ 1 : Nat) : Int) := xorN (a ^^^ rot32 b) 1 (xorN_lt _ _ ha hr) (by decide)
 have h3 := xorN (pa1 a b) b (pa1_lt a b) hb
 have M1 : PLift (∀ w, Calls Try.prog 101 #[.int .u64 (a ^^^ rot32 b ^^^ 1 : Nat)] w fun e w' => e = .returned (.int .u64 (pa1 a b : Nat)) ∧ w = w') := PLift.up (fun w => mix_any _ w)
 have M2 : PLift (∀ w, Calls Try.prog 101 #[.int .u64 (pa1 a b ^^^ b : Nat)] w fun e w' => e = .returned (.int .u64 (pairN a b : Nat)) ∧ w = w') := PLift.up (fun w => mix_any _ w)
 have R := PLift.up (fun w => rot_any b hb w)
 go_enter Try.func100, Try.ntmps100
 go_wp2_with fail
 (with_reducible refine (R.down _).mono ?_)
 rintro e w' ⟨rfl, rfl⟩
 go_wp2_with fail
 (with_reducible refine (M1.down _).mono ?_)
 rintro e w' ⟨rfl, rfl⟩
 go_wp2_with fail
 (with_reducible refine (M2.down _).mono ?_)
 rintro e w' ⟨rfl, rfl⟩
 go_wp2_with fail
 go_returns
 exact ⟨rfl, rfl⟩
set_option maxRecDepth 20000 in
set_option maxHeartbeats 1000000 in
theorem pairOf_any (a b : Nat) (ha : a < 18446744073709551616) (hb : b < 18446744073709551616) (w : World) :
 Calls Try.prog 59 #[.int .u64 a, .int .u64 b] w fun e w' => e = .returned (.int .u64 (pairN a b : Nat)) ∧ w = w' := by
 have hr := rot32_lt b hb
 have h0 : (b : Int) / 4294967296 + (b : Int) % 4294967296 * 4294967296 = ((rot32 b : Nat) : Int) := by unfold rot32; omega
 have h1 := xorN a (rot32 b) ha hr
 have h2 : bits .xor .u64 ((a ^^^ rot32 b : Nat) : Int) 1 = ((a ^^^ rot32 b ^^^ 1 : Nat) : Int) := xorN (a ^^^ rot32 b) 1 (xorN_lt _ _ ha hr) (by decide)
 have h3 := xorN (pa1 a b) b (pa1_lt a b) hb
 have M1 : PLift (∀ w, Calls Try.prog 88 #[.int .u64 (a ^^^ rot32 b ^^^ 1 : Nat)] w fun e w' => e = .returned (.int .u64 (pa1 a b : Nat)) ∧ w = w') := PLift.up (fun w => mixed_any _ w)
 have M2 : PLift (∀ w, Calls Try.prog 88 #[.int .u64 (pa1 a b ^^^ b : Nat)] w fun e w' => e = .returned (.int .u64 (pairN a b : Nat)) ∧ w = w') := PLift.up (fun w => mixed_any _ w)
 go_enter Try.func59, Try.ntmps59
 go_wp2_with fail
 (with_reducible refine (M1.down _).mono ?_)
 rintro e w' ⟨rfl, rfl⟩
 go_wp2_with fail
 (with_reducible refine (M2.down _).mono ?_)
 rintro e w' ⟨rfl, rfl⟩
 go_wp2_with fail
 go_returns
 exact ⟨rfl, rfl⟩
end Go.Proofs.Ytdkmndimmpilaaa
namespace Go.Proofs
open Go.Shelf
def Try.lays125_ren : Go.Shelf.Ren := ⟨fun | 125 => 109 | 128 => 115 | 129 => 116 | n => n, fun | 46 => 121 | 3 => 3 | 51 => 119 | 53 => 48 | 4 => 4 | 5 => 5 | 9 => 9 | n => n, fun | n => n⟩
theorem Try.lays125 : Go.Proofs.Lays.n125 Try.prog Try.lays125_ren := {
 mixed := by kernel_rfl
 f125 := Try.func109.trans (congrArg some (by kernel_rfl))
 f128 := Try.func115.trans (congrArg some (by kernel_rfl))
 f129 := Try.func116.trans (congrArg some (by kernel_rfl))
 t3 := Try.underlying3
 a3 := Try.isAgg3
 z3 := Try.sizeOf3
 v3 := Try.zeroValue3
 t4 := Try.underlying4
 a4 := Try.isAgg4
 z4 := Try.sizeOf4
 v4 := Try.zeroValue4
 t5 := Try.underlying5
 a5 := Try.isAgg5
 z5 := Try.sizeOf5
 v5 := Try.zeroValue5
 t9 := Try.underlying9
 a9 := Try.isAgg9
 z9 := Try.sizeOf9
 v9 := Try.zeroValue9
 t46 := Try.underlying121
 a46 := Try.isAgg121
 z46 := Try.sizeOf121
 v46 := Try.zeroValue121
 t51 := Try.underlying119
 a51 := Try.isAgg119
 z51 := Try.sizeOf119
 v51 := Try.zeroValue119
 t53 := Try.underlying48
 a53 := Try.isAgg48
 z53 := Try.sizeOf48
 v53 := Try.zeroValue48 }
theorem Try.bits_Len (x : Int) (w : World) (h0 : 0 ≤ x) (h1 : x ≤ 18446744073709551615) :
 Calls Try.prog 109 #[.int .u64 x] w fun e w' => e = .returned (.int .i64 (Lib.bitLen x.toNat)) ∧ w' = w := Any.bits_Len Try.lays125 x w h0 h1
end Go.Proofs
namespace Go.Proofs.Ytdkmndimmpilaaa
set_option linter.all false
open Go.RowKit
def sp (n : Nat) : Nat := Lib.bitLen (n - 1) - 1
theorem sp_all : ∀ n : Fin 257, 2 ≤ n.val → 1 ≤ Lib.bitLen (n.val - 1) ∧ sp n.val ≤ 7 ∧ 2 ^ sp n.val < n.val ∧ n.val ≤ 2 * 2 ^ sp n.val := by decide +kernel
theorem sp_any (n : Nat) (h2 : 2 ≤ n) (h : n ≤ 256) : 1 ≤ Lib.bitLen (n - 1) ∧ sp n ≤ 7 ∧ 2 ^ sp n < n ∧ n ≤ 2 * 2 ^ sp n := sp_all ⟨n, by omega⟩ h2
set_option maxHeartbeats 1000000 in
theorem split_any (n : Nat) (h2 : 2 ≤ n) (h : n ≤ 256) (w : World) :
 Calls Try.prog 99 #[.int .i64 n] w fun e w' => e = .returned (.int .i64 (2 ^ sp n : Nat)) ∧ w = w' := by
 obtain ⟨s1, s2, s3, s4⟩ := sp_any n h2 h
 have hp : sp n = Lib.bitLen (n - 1) - 1 := rfl
 have hN : ((n : Int) - 1).toNat = n - 1 := by omega
 have hlt : 2 ^ sp n ≤ 128 := Nat.pow_le_pow_right (n := 2) (by decide) s2
 obtain ⟨L, hL⟩ : ∃ L, L = Lib.bitLen (n - 1) := ⟨_, rfl⟩
 have R : PLift (∀ w, Calls Try.prog 109 #[.int .u64 ((n : Int) - 1)] w fun e w' => e = .returned (.int .i64 L) ∧ w' = w) := PLift.up (fun w => by
  have := Try.bits_Len ((n : Int) - 1) w (by omega) (by omega)
  rw [hN, ← hL] at this; exact this)
 rw [← hL] at hp s1
 obtain ⟨q, rfl⟩ : ∃ q, L = q + 1 := ⟨L - 1, by omega⟩
 have hq : sp n = q := by omega
 rw [hq] at hlt s2 ⊢
 clear hp hL s3 s4 hN hq s1
 go_enter Try.func99, Try.ntmps99
 go_wp2_with fail
 refine (R.down _).mono ?_
 rintro e w' ⟨rfl, rfl⟩
 go_wp2_with fail
 go_returns
 refine ⟨?_, rfl⟩
 have hW : wrap64 (2 ^ q) = ((2 ^ q : Nat) : Int) := by
  rw [show ((2 : Int) ^ q) = ((2 ^ q : Nat) : Int) from by simp]
  generalize 2 ^ q = y at *
  unfold wrap64; omega
 show Ending.returned (.int .i64 (wrap64 (2 ^ q))) = _
 rw [hW]
end Go.Proofs.Ytdkmndimmpilaaa
namespace Go.Proofs.Ytdkmndimmpilaaa
set_option linter.all false
theorem xor_one (i : Nat) : i ^^^ 1 = if i % 2 = 0 then i + 1 else i - 1 := by
 have h1 : (i ^^^ 1) / 2 = i / 2 := by rw [Nat.xor_div_two]; simp
 rcases Nat.mod_two_eq_zero_or_one i with h | h
 ·have h2 : (i ^^^ 1) % 2 = 1 := by rw [Nat.xor_mod_two_eq_one]; omega
  rw [if_pos h]; omega
 ·have h2 : (i ^^^ 1) % 2 = 0 := by
   have : ¬ (i ^^^ 1) % 2 = 1 := by rw [Nat.xor_mod_two_eq_one]; omega
   omega
  rw [if_neg (by omega)]; omega
def clF (pr : Nat → Nat → Nat) : Nat → Nat → Nat → Nat → List Nat → Option Nat
 | 0, m, _, _, t => if t = [] then some m else none
 | f + 1, m, i, n, t => if n ≤ 1 then (if t = [] then some m else none) else if n ≤ i ^^^ 1 then clF pr f m (i / 2) ((n + 1) / 2) t else t.head?.bind fun x => clF pr f (if i % 2 = 0 then pr m x else pr x m) (i / 2) ((n + 1) / 2) t.tail
def cl (pr : Nat → Nat → Nat) (m i n : Nat) (t : List Nat) : Option Nat := clF pr n m i n t
theorem clF_any (pr : Nat → Nat → Nat) : ∀ (f g m i n : Nat) (t : List Nat), n ≤ f → n ≤ g → clF pr f m i n t = clF pr g m i n t
 | 0, g, m, i, n, t, h, _ => by
  obtain rfl : n = 0 := by omega
  cases g <;> simp [clF]
 | f + 1, 0, m, i, n, t, _, h => by
  obtain rfl : n = 0 := by omega
  simp [clF]
 | f + 1, g + 1, m, i, n, t, h1, h2 => by
  rw [clF, clF]
  split
  ·rfl
  ·split
   ·exact clF_any pr f g _ _ _ _ (by omega) (by omega)
   ·cases t with
    | nil => rfl
    | cons x r => exact clF_any pr f g _ _ _ _ (by omega) (by omega)
def clS (pr : Nat → Nat → Nat) (m i n : Nat) : List Nat → Option Nat
 | [] => none
 | x :: r => cl pr (if i % 2 = 0 then pr m x else pr x m) (i / 2) ((n + 1) / 2) r
theorem cl_one (pr : Nat → Nat → Nat) (m i n : Nat) (t : List Nat) (h : n ≤ 1) : cl pr m i n t = if t = [] then some m else none := by
 unfold cl
 cases n with
 | zero => rfl
 | succ n => rw [clF, if_pos h]
theorem cl_step (pr : Nat → Nat → Nat) (m i n : Nat) (t : List Nat) (hi : i < n) : cl pr m i n t = if n ≤ i ^^^ 1 then cl pr m (i / 2) ((n + 1) / 2) t else clS pr m i n t := by
 by_cases h : n ≤ 1
 ·obtain rfl : i = 0 := by omega
  obtain rfl : n = 1 := by omega
  rw [xor_one, if_pos rfl, if_pos (by omega)]
 ·unfold cl
  have e : n = (n - 1) + 1 := by omega
  conv => lhs; rw [e]
  rw [clF, if_neg (by omega), ← e]
  split
  ·exact clF_any pr _ _ _ _ _ _ (by omega) (Nat.le_refl _)
  ·cases t with
   | nil => rfl
   | cons x r => exact clF_any pr _ _ _ _ _ _ (by omega) (Nat.le_refl _)
def clH (pr : Nat → Nat → Nat) (m i n q : Nat) (t : List Nat) : Option Nat :=
 match t.getLast? with
 | none => none
 | some x => if i < q then (cl pr m i q t.dropLast).map (fun y => pr y x) else (cl pr m (i - q) (n - q) t.dropLast).map (fun y => pr x y)
theorem cl_halves (pr : Nat → Nat → Nat) : ∀ (p m i n : Nat) (t : List Nat), 2 ^ p < n → n ≤ 2 * 2 ^ p → i < n → cl pr m i n t = clH pr m i n (2 ^ p) t
 | 0, m, i, n, t, h1, h2, hi => by
  obtain rfl : n = 2 := by simp at h1 h2; omega
  rw [cl_step pr m i 2 t hi, if_neg (by rw [xor_one]; split <;> omega)]
  cases t with
  | nil => rfl
  | cons x r =>
   have hr : i = 0 ∨ i = 1 := by omega
   rw [clS, cl_one _ _ _ _ _ (by omega)]
   cases r with
   | nil =>
    rcases hr with rfl | rfl <;> simp [clH, cl_one]
   | cons y s =>
    have hg : ∃ z, (x :: y :: s).getLast? = some z := by
     cases h : (x :: y :: s).getLast? with
     | none => simp at h
     | some z => exact ⟨z, rfl⟩
    obtain ⟨z, hz⟩ := hg
    unfold clH
    rw [hz]
    rcases hr with rfl | rfl <;> simp [cl_one]
 | p + 1, m, i, n, t, h1, h2, hi => by
  have e : 2 ^ (p + 1) = 2 * 2 ^ p := by rw [Nat.pow_succ]; omega
  have ih := fun m t => cl_halves pr p m (i / 2) ((n + 1) / 2) t
  rw [e] at h1 h2 ⊢
  have hq : 0 < 2 ^ p := Nat.pow_pos (by decide)
  generalize 2 ^ p = q at *
  have ih := fun m t => ih m t (by omega) (by omega) (by omega)
  have hx := xor_one i
  have hlast : ∀ (x : Nat) (r : List Nat), r ≠ [] → (x :: r).getLast? = r.getLast? ∧ (x :: r).dropLast = x :: r.dropLast := by
   intro x r hr
   cases r with
   | nil => exact absurd rfl hr
   | cons y s => exact ⟨by rw [List.getLast?_cons_cons], rfl⟩
  rw [cl_step pr m i n t hi]
  by_cases hc : i < 2 * q
  ·rw [if_neg (by rw [hx]; split <;> omega)]
   cases t with
   | nil => rfl
   | cons x r =>
    rw [clS, ih]
    by_cases hr : r = []
    ·subst hr
     have hs := cl_step pr m i (2 * q) [] hc
     rw [if_neg (by rw [hx]; split <;> omega)] at hs
     simp [clH, hc, hs, clS]
    ·obtain ⟨g1, g2⟩ := hlast x r hr
     have hs := cl_step pr m i (2 * q) (x :: r.dropLast) hc
     rw [if_neg (by rw [hx]; split <;> omega), clS, show (2 * q + 1) / 2 = q from by omega] at hs
     unfold clH
     rw [g1, g2]
     simp only [if_pos hc, if_pos (show i / 2 < q by omega), hs]
  ·have hj : i - 2 * q < n - 2 * q := by omega
   have hxj : (i - 2 * q) ^^^ 1 = (i ^^^ 1) - 2 * q := by
    rw [hx, xor_one (i - 2 * q)]
    split <;> split <;> omega
   have hge : 2 * q ≤ i ^^^ 1 := by rw [hx]; split <;> omega
   by_cases hsk : n ≤ i ^^^ 1
   ·rw [if_pos hsk, ih]
    unfold clH
    cases t.getLast? with
    | none => rfl
    | some x =>
     have hs := cl_step pr m (i - 2 * q) (n - 2 * q) t.dropLast hj
     rw [if_pos (by omega), show (i - 2 * q) / 2 = i / 2 - q from by omega, show (n - 2 * q + 1) / 2 = (n + 1) / 2 - q from by omega] at hs
     simp only [if_neg (show ¬ i / 2 < q by omega), if_neg hc, hs]
   ·rw [if_neg hsk]
    cases t with
    | nil => rfl
    | cons x r =>
     rw [clS, ih]
     have hm2 : i % 2 = (i - 2 * q) % 2 := by omega
     by_cases hr : r = []
     ·subst hr
      have hs := cl_step pr m (i - 2 * q) (n - 2 * q) [] hj
      rw [if_neg (by omega)] at hs
      simp [clH, hc, hs, clS]
     ·obtain ⟨g1, g2⟩ := hlast x r hr
      have hs := cl_step pr m (i - 2 * q) (n - 2 * q) (x :: r.dropLast) hj
      rw [if_neg (by omega), clS, show (i - 2 * q) / 2 = i / 2 - q from by omega, show (n - 2 * q + 1) / 2 = (n + 1) / 2 - q from by omega, ← hm2] at hs
      unfold clH
      rw [g1, g2]
      simp only [if_neg hc, if_neg (show ¬ i / 2 < q by omega), hs]
end Go.Proofs.Ytdkmndimmpilaaa
namespace Go.Proofs.Ytdkmndimmpilaaa
set_option linter.all false
open Go.RowKit
def cs (n : Nat) : Nat := n / 2 ^^^ (if n % 2 = 1 then 3988292384 else 0)
def csk : Nat → Nat → Nat
 | 0, n => n
 | k + 1, n => cs (csk k n)
theorem cs_lt (n : Nat) (h : n < 4294967296) : cs n < 4294967296 := by
 unfold cs
 refine Nat.xor_lt_two_pow (n := 32) (by omega) ?_
 split <;> decide
theorem csk_lt (k n : Nat) (h : n < 4294967296) : csk k n < 4294967296 := by
 induction k with
 | zero => exact h
 | succ k ih => exact cs_lt _ ih
theorem x32 (a b : Nat) (ha : a < 4294967296) (hb : b < 4294967296) : bits .xor .u32 (a : Int) (b : Int) = ((a ^^^ b : Nat) : Int) := u32_xor_nat a b ha hb
theorem x32_lt (a b : Nat) (ha : a < 4294967296) (hb : b < 4294967296) : a ^^^ b < 4294967296 := Nat.xor_lt_two_pow (n := 32) ha hb
def tk (n b : Nat) : Nat := csk 8 (n ^^^ b)
theorem tk_lt (n b : Nat) (h : n < 4294967296) (hb : b < 256) : tk n b < 4294967296 := csk_lt 8 _ (x32_lt n b h (by omega))
theorem cs_eq (y : Nat) (h : y < 4294967296) : bits .xor .u32 ((y : Int) / 2) (bits .and .u32 3988292384 (-bits .and .u32 (y : Int) 1 % 4294967296)) = ((cs y : Nat) : Int) := by
 have h1 : bits .and .u32 (y : Int) 1 = ((y % 2 : Nat) : Int) := by
  have := u32_and_nat y 1 h (by decide)
  rw [Nat.and_one_is_mod] at this; exact this
 rw [h1]
 have h2 : (y : Int) / 2 = ((y / 2 : Nat) : Int) := by omega
 rw [h2]
 unfold cs
 rcases Nat.mod_two_eq_zero_or_one y with h0 | h0
 ·rw [h0]
  have e : bits .and .u32 3988292384 (-((0 : Nat) : Int) % 4294967296) = ((0 : Nat) : Int) := by decide +kernel
  rw [e, x32 _ _ (by omega) (by decide)]; simp
 ·rw [h0]
  have e : bits .and .u32 3988292384 (-((1 : Nat) : Int) % 4294967296) = ((3988292384 : Nat) : Int) := by decide +kernel
  rw [e, x32 _ _ (by omega) (by decide)]; simp
theorem cs_xor (x y : Nat) : cs (x ^^^ y) = (if x % 2 = y % 2 then x / 2 ^^^ y / 2 else (x / 2 ^^^ 3988292384) ^^^ y / 2) := by
 unfold cs
 rw [Nat.xor_div_two]
 by_cases h : x % 2 = y % 2
 ·have : ¬ (x ^^^ y) % 2 = 1 := by rw [Nat.xor_mod_two_eq_one]; omega
  rw [if_neg this, if_pos h, Nat.xor_zero]
 ·have : (x ^^^ y) % 2 = 1 := by rw [Nat.xor_mod_two_eq_one]; omega
  rw [if_pos this, if_neg h, Nat.xor_assoc, Nat.xor_comm (y / 2), ← Nat.xor_assoc]
set_option maxHeartbeats 800000 in
theorem take_any (n b : Nat) (w : World) (hn : n < 4294967296) (hb : b < 256) :
 Calls Try.prog 108 #[.int .u32 n, .int .u8 b] w fun e w' => e = .returned (.int .u32 (tk n b : Nat)) ∧ w = w' := by
 have hx := x32 n b hn (by omega)
 have hl := x32_lt n b hn (by omega)
 have e : tk n b = csk 8 (n ^^^ b) := rfl
 generalize n ^^^ b = z at hx hl e
 have E := Lib.hid e; clear e
 go_enter Try.func108, Try.ntmps108
 go_wp2_with fail
 go_loop [0, 9] (fun m i => ∃ k : Nat, k ≤ 8 ∧ i = .int .i64 k ∧ m = .int .u32 (csk k z : Nat)) (fun _ i => 8 - (intOf i).toNat)
 case atStart => exact ⟨0, by omega, rfl, rfl⟩
 case round =>
  obtain ⟨k, hk, rfl, rfl⟩ := hrel
  by_cases h8 : k < 8
  ·have hlk := csk_lt k z hl
   have hs : csk (k + 1) z = cs (csk k z) := rfl
   generalize csk k z = y at *
   have hls := cs_lt y hlk
   have HS := Lib.hid hs; clear hs
   go_wp2_with fail
   go_round
   case rel => exact ⟨k + 1, by omega, by go_num, by rw [HS.out, cs_eq y hlk]⟩
   case measure => simp [intOf]; omega
  ·obtain rfl : k = 8 := by omega
   go_wp2_with fail
   go_ret
   exact ⟨ret_u32 (by rw [E.out]), rfl⟩
theorem step_byte (x y k n b : Nat) (h : x ^^^ y = csk k (n ^^^ b) ∧ y = b / 2 ^ k) :
 (x % 2 = y % 2 → (x / 2) ^^^ (y / 2) = csk (k + 1) (n ^^^ b) ∧ y / 2 = b / 2 ^ (k + 1)) ∧ (x % 2 ≠ y % 2 → (x / 2 ^^^ 3988292384) ^^^ (y / 2) = csk (k + 1) (n ^^^ b) ∧ y / 2 = b / 2 ^ (k + 1)) := by
 obtain ⟨h1, h2⟩ := h
 have e1 : csk (k + 1) (n ^^^ b) = cs (x ^^^ y) := by rw [h1]; rfl
 have e2 : y / 2 = b / 2 ^ (k + 1) := by rw [h2, Nat.div_div_eq_div_mul, Nat.pow_succ]
 rw [e1, cs_xor]
 exact ⟨fun h => ⟨by rw [if_pos h], e2⟩, fun h => ⟨by rw [if_neg h], e2⟩⟩
set_option maxHeartbeats 800000 in
theorem crcByte_any (n b : Nat) (w : World) (hn : n < 4294967296) (hb : b < 256) :
 Calls Try.prog 98 #[.int .u32 n, .int .u8 b] w fun e w' => e = .returned (.int .u32 (tk n b : Nat)) ∧ w = w' := by
 go_enter Try.func98, Try.ntmps98
 go_wp2_with fail
 go_loop [0, 1, 5, 6] (fun m c _ i => ∃ k x y : Nat, k ≤ 8 ∧ i = .int .i64 k ∧ m = .int .u32 (x : Nat) ∧ c = .int .u8 (y : Nat) ∧ Hid (x ^^^ y = csk k (n ^^^ b) ∧ y = b / 2 ^ k) ∧ x < 4294967296 ∧ y < 256) (fun _ _ _ i => 8 - (intOf i).toNat)
 case atStart => exact ⟨0, n, b, by omega, rfl, rfl, rfl, ⟨rfl, by simp⟩, hn, hb⟩
 case round =>
  obtain ⟨k, x, y, hk, rfl, rfl, rfl, hI, hx, hy⟩ := hrel
  by_cases h8 : k < 8
  ·obtain ⟨s1, s2⟩ := step_byte x y k n b hI
   have H1 := Lib.hid s1
   have H2 := Lib.hid s2
   have hxx := x32 (x / 2) 3988292384 (by omega) (by decide)
   have hxl := x32_lt (x / 2) 3988292384 (by omega) (by decide)
   have HXX := Lib.hid hxx
   have HXL := Lib.hid hxl
   clear s1 s2 hI hxx hxl
   by_cases hp : x % 2 = y % 2
   ·have hP := Lib.hid hp
    have hb1 : ((x : Int) % 2 == 1) = ((y : Int) % 2 == 1) := by
     rw [Bool.eq_iff_iff]; simp; omega
    generalize hq : ((y : Int) % 2 == 1) = q at hb1
    clear hp
    have h2 : ((x : Int) % 2 == 1) = q := hb1
    cases q
    all_goals
     go_wp2_with fail
     go_round
     case rel => exact ⟨k + 1, x / 2, y / 2, by omega, by go_num, by go_num, by go_num, H1.out hP.out, by omega, by omega⟩
     case measure => simp [intOf]; omega
   ·have hP := Lib.hid hp
    have hb1 : ((x : Int) % 2 == 1) = !((y : Int) % 2 == 1) := by
     rw [Bool.eq_iff_iff]; simp; omega
    generalize hq : ((y : Int) % 2 == 1) = q at hb1
    clear hp
    cases q
    all_goals
     simp only [Bool.not_false, Bool.not_true] at hb1
     go_wp2_with fail
     go_round
     case rel => exact ⟨k + 1, x / 2 ^^^ 3988292384, y / 2, by omega, by go_num, by have := HXX.out; rw [← this]; go_num, by go_num, H2.out hP.out, HXL.out, by omega⟩
     case measure => simp [intOf]; omega
  ·obtain rfl : k = 8 := by omega
   go_wp2_with fail
   go_ret
   refine ⟨ret_u32 ?_, rfl⟩
   obtain ⟨h1, h2⟩ := hI.out
   have hy0 : y = 0 := by rw [h2]; exact Nat.div_eq_of_lt hb
   rw [hy0, Nat.xor_zero] at h1
   rw [h1]; rfl
end Go.Proofs.Ytdkmndimmpilaaa
namespace Go.Proofs.Ytdkmndimmpilaaa
set_option linter.all false
open Go.RowKit
def tks (n : Nat) (l : List UInt8) : Nat := l.foldl (fun n b => tk n b.toNat) n
theorem tks_lt (l : List UInt8) : ∀ n, n < 4294967296 → tks n l < 4294967296 := by
 induction l with
 | nil => intro n h; exact h
 | cons b l ih => intro n h; exact ih _ (tk_lt n _ h (UInt8.toNat_lt b))
theorem tks_snoc (n : Nat) (l : List UInt8) (b : UInt8) : tks n (l ++ [b]) = tk (tks n l) b.toNat := by simp [tks]
def crcM (n : Nat) (l : List UInt8) : Nat := 4294967295 - tks (4294967295 - n) l
theorem crcM_lt (n : Nat) (l : List UInt8) : crcM n l < 4294967296 := by unfold crcM; omega
theorem not32 (n : Nat) (h : n < 4294967296) : bits .xor .u32 IntKind.u32.max (n : Int) = ((4294967295 - n : Nat) : Int) := by
 have e1 : IntKind.u32.max = ((4294967295 : Nat) : Int) := by decide
 rw [e1, x32 _ _ (by decide) h]
 congr 1
 have e2 : (BitVec.ofNat 32 4294967295 ^^^ BitVec.ofNat 32 n) = ~~~(BitVec.ofNat 32 n) := by
  have : BitVec.ofNat 32 4294967295 = BitVec.allOnes 32 := by decide
  rw [this, BitVec.allOnes_xor]
 have e3 := congrArg BitVec.toNat e2
 rw [BitVec.toNat_xor, BitVec.toNat_not, BitVec.toNat_ofNat, BitVec.toNat_ofNat, Nat.mod_eq_of_lt (show n < 2 ^ 32 from h)] at e3
 exact e3
set_option maxHeartbeats 800000 in
theorem more_any (n : Nat) (s : ByteArray) (w : World) (hn : n < 4294967296) (hs : s.size ≤ 140737488351232) :
 Calls Try.prog 97 #[.int .u32 n, .string s] w fun e w' => e = .returned (.int .u32 (crcM n s.data.toList : Nat)) ∧ w = w' := by
 go_enter Try.func97, Try.ntmps97
 go_wp2_with fail
 go_loop [0, 5, 10] (fun m _ i => ∃ k : Nat, k ≤ s.size ∧ i = .int .i64 k ∧ m = .int .u32 (tks (4294967295 - n) (s.data.toList.take k) : Nat)) (fun _ _ i => s.size - (intOf i).toNat)
 case atStart => exact ⟨0, by omega, rfl, by rw [not32 n hn]; rfl⟩
 case round =>
  obtain ⟨k, hk, rfl, rfl⟩ := hrel
  have hl := tks_lt (s.data.toList.take k) (4294967295 - n) (by omega)
  by_cases h8 : k < s.size
  ·have hs1 : tks (4294967295 - n) (s.data.toList.take (k + 1)) = tk (tks (4294967295 - n) (s.data.toList.take k)) s[k].toNat := by rw [bytes_snoc s k h8, tks_snoc]
   generalize tks (4294967295 - n) (s.data.toList.take k) = y at *
   have HS := Lib.hid hs1; clear hs1
   go_wp2_with (go_at_call 108; refine (take_any _ _ _ hl (UInt8.toNat_lt _)).mono ?_; rintro e w' ⟨rfl, rfl⟩)
   go_round
   case rel => exact ⟨k + 1, by omega, by go_num, by rw [HS.out]⟩
   case measure => simp [intOf]; omega
  ·have hke : k = s.size := by omega
   go_wp2_with fail
   go_ret
   refine ⟨ret_u32 ?_, rfl⟩
   rw [hke] at hl
   rw [not32 _ hl, crcM, take_all]
set_option maxHeartbeats 800000 in
theorem crcMore_any (n : Nat) (s : ByteArray) (w : World) (hn : n < 4294967296) (hs : s.size ≤ 140737488351232) :
 Calls Try.prog 80 #[.int .u32 n, .string s] w fun e w' => e = .returned (.int .u32 (crcM n s.data.toList : Nat)) ∧ Below w.heap.size w w' := by
 have hcv := fun w => Lib.run_convert_string_bytes (P := Try.prog) w 9 111 5 s Try.underlying9 Try.underlying111 Try.underlying5
 go_enter Try.func80, Try.ntmps80
 go_wp2_with fail
 have hcell := fun j hj => Lib.bytesWorld_cell w 5 s j hj
 have hbw : Below w.heap.size w (Lib.bytesWorld w 5 s) := ⟨rfl, rfl, rfl, by rw [Lib.bytesWorld_size]; omega, fun k hk => Lib.bytesWorld_at_old w _ s k hk⟩
 obtain ⟨W, hW⟩ : ∃ W, W = Lib.bytesWorld w 5 s := ⟨_, rfl⟩
 rw [← hW] at hcell hbw ⊢
 generalize grownCap w s.size 0 5 = cp
 have HC := Lib.hid hcell
 have HB := Lib.hid hbw
 clear hcell hbw hW hcv
 go_loop [0, 6, 12] (fun m _ i => ∃ k : Nat, k ≤ s.size ∧ i = .int .i64 k ∧ m = .int .u32 (tks (4294967295 - n) (s.data.toList.take k) : Nat)) (fun _ _ i => s.size - (intOf i).toNat)
 case atStart => exact ⟨0, by omega, rfl, congrArg (Value.int .u32) (by show _ = ((4294967295 - n : Nat) : Int); omega)⟩
 case round =>
  obtain ⟨k, hk, rfl, rfl⟩ := hrel
  have hl := tks_lt (s.data.toList.take k) (4294967295 - n) (by omega)
  by_cases h8 : k < s.size
  ·have hs1 : tks (4294967295 - n) (s.data.toList.take (k + 1)) = tk (tks (4294967295 - n) (s.data.toList.take k)) s[k].toNat := by rw [bytes_snoc s k h8, tks_snoc]
   generalize tks (4294967295 - n) (s.data.toList.take k) = y at *
   have HS := Lib.hid hs1; clear hs1
   have hc := HC.out k h8
   have he : (s.data.toList.getD k 0) = s[k] := by
    rw [List.getD_eq_getElem?_getD, List.getElem?_eq_getElem (by simpa using h8)]; rfl
   rw [he] at hc
   have hlt := UInt8.toNat_lt s[k]
   generalize s[k].toNat = q at *
   clear he
   go_wp2_with (go_at_call 98; refine (crcByte_any _ _ _ hl hlt).mono ?_; rintro e w' ⟨rfl, rfl⟩)
   go_round
   case rel => exact ⟨k + 1, by omega, by go_num, by rw [HS.out]⟩
   case measure => simp [intOf]; omega
  ·have hke : k = s.size := by omega
   have hfin : tks (4294967295 - n) (s.data.toList.take k) = tks (4294967295 - n) s.data.toList := by rw [hke, take_all]
   have HF := Lib.hid hfin; clear hfin hke
   generalize tks (4294967295 - n) (s.data.toList.take k) = y at *
   go_wp2_with fail
   go_ret
   refine ⟨ret_u32 ?_, HB.out⟩
   rw [crcM, ← HF.out]; omega
set_option maxHeartbeats 800000 in
theorem of_crc (s : ByteArray) (w : World) (hs : s.size ≤ 140737488351232) :
 Calls Try.prog 78 #[.string s] w fun e w' => e = .returned (.int .u32 (crcM 0 s.data.toList : Nat)) ∧ w = w' := by
 go_enter Try.func78, Try.ntmps78
 go_wp2_with fail
 refine (more_any 0 s w (by decide) hs).mono ?_
 rintro e w' ⟨rfl, rfl⟩
 go_wp2_with fail
 go_ret
 exact ⟨rfl, rfl⟩
def sealB (n : Nat) : List UInt8 := [UInt8.ofNat (n % 256), UInt8.ofNat (n / 256 % 256), UInt8.ofNat (n / 65536 % 256), UInt8.ofNat (n / 16777216 % 256)]
def sealS (s : ByteArray) : ByteArray := s ++ ⟨(sealB (crcM 0 s.data.toList)).toArray⟩
set_option maxHeartbeats 800000 in
set_option maxRecDepth 100000 in
theorem seal_any (s : ByteArray) (w : World) (hs : s.size ≤ 140737488351232) :
 Calls Try.prog 43 #[.string s] w fun e w' => e = .returned (.string (sealS s)) ∧ Below w.heap.size w w' := by
 have hS : sealS s = s ++ ⟨(sealB (crcM 0 s.data.toList)).toArray⟩ := rfl
 have hl := crcM_lt 0 s.data.toList
 go_enter Try.func43, Try.ntmps43
 go_wp2_with fail
 refine (of_crc s w hs).mono ?_
 rintro e w' ⟨rfl, rfl⟩
 generalize crcM 0 s.data.toList = n at *
 have hcv := run_convert_bytes_back (P := Try.prog) (w.alloc (Obj.cells #[Value.int IntKind.u8 ((n : Int) % 256), Value.int IntKind.u8 ((n : Int) / 256 % 256), Value.int IntKind.u8 ((n : Int) / 65536 % 256), Value.int IntKind.u8 ((n : Int) / 16777216)] 5)) 111 9 5 ⟨w.heap.size, 0, none⟩ 4 (sealB n) Try.underlying111 Try.underlying5 Try.underlying9 (by
  intro j hj
  have h1 : (UInt8.ofNat (n % 256)).toNat = n % 256 := u8_ofNat_toNat _ (by omega)
  have h2 : (UInt8.ofNat (n / 256 % 256)).toNat = n / 256 % 256 := u8_ofNat_toNat _ (by omega)
  have h3 : (UInt8.ofNat (n / 65536 % 256)).toNat = n / 65536 % 256 := u8_ofNat_toNat _ (by omega)
  have h4 : (UInt8.ofNat (n / 16777216 % 256)).toNat = n / 16777216 % 256 := u8_ofNat_toNat _ (by omega)
  have hjl : j < 4 := hj
  rw [Addr.add_lit]
  match j, hjl with
  | 0, _ => simp only [sealB, List.getElem_cons_zero, h1]; simp [go_sem]
  | 1, _ => simp only [sealB, List.getElem_cons_succ, List.getElem_cons_zero, h2]; simp [go_sem]
  | 2, _ => simp only [sealB, List.getElem_cons_succ, List.getElem_cons_zero, h3]; simp [go_sem]
  | 3, _ => simp only [sealB, List.getElem_cons_succ, List.getElem_cons_zero, h4]; simp [go_sem]; omega)
 have e4 : (sealB n).length = 4 := rfl
 rw [e4] at hcv
 have hsz : (ByteArray.mk (sealB n).toArray).size = 4 := rfl
 have HS := Lib.hid hS; clear hS
 obtain ⟨T, hT⟩ : ∃ T, T = ByteArray.mk (sealB n).toArray := ⟨_, rfl⟩
 rw [← hT] at hcv hsz
 have HT := Lib.hid hT; clear hT e4
 go_wp2_with fail
 go_ret
 refine ⟨congrArg Ending.returned (congrArg Value.string ?_), by go_grown⟩
 rw [HS.out, HT.out]
def bcells (xs : List Nat) (k : Nat) : List Value := (xs.take k).map (fun x : Nat => Value.int .u8 x) ++ List.replicate (xs.length - k) (.int .u8 0)
theorem bcells_set (xs : List Nat) (k : Nat) (h : k < xs.length) : (bcells xs k).set k (.int .u8 (xs[k] : Nat)) = bcells xs (k + 1) := by
 unfold bcells
 have hl : ((xs.take k).map (fun x => Value.int .u8 (x : Nat))).length = k := by simp; omega
 rw [List.set_append_right _ _ (by omega), hl, Nat.sub_self]
 have e : xs.length - k = (xs.length - (k + 1)) + 1 := by omega
 rw [e, List.replicate_succ, List.set_cons_zero, take_snoc' xs k h, List.map_append]
 simp
set_option maxHeartbeats 1000000 in
set_option maxRecDepth 100000 in
theorem bytes_any (a : Option Addr) (c B : Nat) (xs : List Nat) (w : World) (hm : xs.length ≤ 1000) (hx : Els w B a 1 ei64 (xs.map fun x : Nat => (x : Int))) (hB : B ≤ w.heap.size) (hb : ∀ x ∈ xs, x < 256) :
 Calls Try.prog 79 #[.slice a xs.length c] w fun e w' => e = .returned (.string ⟨(xs.map UInt8.ofNat).toArray⟩) ∧ Below w.heap.size w w' := by
 have H := Lib.hid hx; clear hx
 have HB := Lib.hid hb; clear hb
 go_enter Try.func79, Try.ntmps79
 go_wp2_with (at_make; refine wpMake _ rfl _ _ _ rfl w.heap.size _ _ _ elT_u8 xs.length _ _ rfl rfl rfl rfl ?_ ?_ ?_ ?_)
 ·omega
 ·simp only [maxLen]; omega
 ·omega
 intro w1 hown hg
 have hb1 : Below w.heap.size w w1 := (Below.refl _ _).grown hg (Nat.le_refl _) (by simp)
 have hcells : List.replicate xs.length (Value.int .u8 0) = bcells xs 0 := by simp [bcells]
 rw [hcells] at hown
 have HO := Lib.hid hown
 have HB1 := Lib.hid hb1
 clear hown hb1 hcells hg
 go_wp2_with fail
 go_loopw [4, 5, 11] (fun _ _ i wr => ∃ k : Nat, k ≤ xs.length ∧ i = .int .i64 k ∧ Hid (wr.ownsRow w.heap.size 5 1 (.slice (some ⟨w.heap.size, 0, none⟩) xs.length xs.length) xs.length (bcells xs k) ∧ Below w.heap.size w wr)) (fun _ _ i _ => xs.length - (intOf i).toNat)
 case atStart => exact ⟨0, by omega, rfl, HO.out, HB1.out⟩
 case round =>
  obtain ⟨k, hk, rfl, hI⟩ := hrel
  by_cases hlt : k < xs.length
  ·obtain ⟨b, o, rfl, hbB, hc⟩ := (H.out.below hI.out.2 hB).i64 k (by simpa using hlt)
   have hge : (xs.map fun x : Nat => (x : Int))[k]'(by simpa using hlt) = ((xs[k] : Nat) : Int) := by simp
   rw [hge] at hc
   have hx256 := HB.out xs[k] (List.getElem_mem hlt)
   have hset := bcells_set xs k hlt
   generalize xs[k] = x at *
   have hst := hI.out.1.stored k (.int .u8 x)
   have hfr := hI.out.1.frozenAt k
   have hcc : ∃ u, wr.cell? ⟨w.heap.size, k, none⟩ = some u := by
    have h := hI.out.1.cellAt k (by omega)
    rw [h]
    have hl := hI.out.1.1
    exact ⟨_, List.getElem?_eq_getElem (by omega)⟩
   obtain ⟨u, hu⟩ := hcc
   have HST := Lib.hid hst; clear hst
   have HSET := Lib.hid hset; clear hset hge
   go_wp2_with fail
   go_roundw
   case rel =>
    refine ⟨k + 1, by omega, by go_num, ?_, ?_⟩
    ·rw [← HSET.out]; exact HST.out.1
    ·exact hI.out.2.grown HST.out.2 hI.out.2.size (by simp)
   case measure => simp [intOf]; omega
  ·obtain rfl : k = xs.length := by omega
   have hcv := run_convert_bytes_back (P := Try.prog) wr 111 9 5 ⟨w.heap.size, 0, none⟩ xs.length (xs.map UInt8.ofNat) Try.underlying111 Try.underlying5 Try.underlying9 (by
    intro j hj
    have hj' : j < xs.length := by simpa using hj
    rw [Addr.add_lit, Nat.zero_add, hI.out.1.cellAt j (by omega)]
    simp only [bcells, List.take_length, Nat.sub_self, List.replicate_zero, List.append_nil, List.getElem?_map, List.getElem_map, List.getElem?_eq_getElem hj', Option.map_some, u8_ofNat_toNat _ (HB.out _ (List.getElem_mem hj'))])
   rw [List.length_map] at hcv
   go_wp2_with fail
   go_ret
   exact ⟨rfl, hI.out.2⟩
end Go.Proofs.Ytdkmndimmpilaaa
namespace Go.Proofs.Ytdkmndimmpilaaa
set_option linter.all false
open Go.RowKit
def openR (s : ByteArray) : ByteArray × Int :=
 if s.size < 4 then (⟨#[]⟩, 3) else if sealS (s.extract 0 (s.size - 4)) = s then (s.extract 0 (s.size - 4), 0) else (⟨#[]⟩, 5)
theorem extract_size (s : ByteArray) (h : 4 ≤ s.size) : (s.extract 0 (s.size - 4)).size = s.size - 4 := by rw [ByteArray.size_extract]; omega
set_option maxHeartbeats 800000 in
theorem open_any (s : ByteArray) (w : World) (hs : s.size ≤ 140737488351232) :
 Calls Try.prog 48 #[.string s] w fun e w' => e = .returned (.tuple #[.string (openR s).1, .int .i64 (openR s).2]) ∧ Below w.heap.size w w' := by
 by_cases h4 : s.size < 4
 ·have hr : openR s = (⟨#[]⟩, 3) := by simp [openR, h4]
  rw [hr]
  go_enter Try.func48, Try.ntmps48
  go_wp2_with fail
  go_ret2
  exact ⟨rfl, Below.refl _ _⟩
 ·have hex := extract_size s (by omega)
  by_cases hq : sealS (s.extract 0 (s.size - 4)) = s
  ·have hr : openR s = (s.extract 0 (s.size - 4), 0) := by simp [openR, h4, hq]
   rw [hr]
   have HQ := Lib.hid hq; clear hq hr
   go_enter Try.func48, Try.ntmps48
   go_wp2_with fail
   refine (seal_any _ _ (by omega)).mono ?_
   rintro e w1 ⟨rfl, hb⟩
   rw [HQ.out]
   have HB := Lib.hid hb; clear hb
   go_wp2_with fail
   go_ret2
   exact ⟨rfl, HB.out⟩
  ·have hr : openR s = (⟨#[]⟩, 5) := by simp [openR, h4, hq]
   rw [hr]
   go_enter Try.func48, Try.ntmps48
   go_wp2_with fail
   refine (seal_any _ _ (by omega)).mono ?_
   rintro e w1 ⟨rfl, hb⟩
   have HB := Lib.hid hb; clear hb hr hex
   generalize sealS (s.extract 0 (s.size - 4)) = t at *
   have hne := str_ne hq
   clear hq
   go_wp2_with fail
   go_ret2
   exact ⟨rfl, HB.out⟩
set_option maxHeartbeats 800000 in
theorem sealed_any (s : ByteArray) (w : World) (hs : s.size ≤ 140737488351232) :
 Calls Try.prog 47 #[.string s] w fun e w' => e = .returned (.string (sealS s)) ∧ Below w.heap.size w w' := by
 have hS : sealS s = s ++ ⟨(sealB (crcM 0 s.data.toList)).toArray⟩ := rfl
 have hl := crcM_lt 0 s.data.toList
 go_enter Try.func47, Try.ntmps47
 go_wp2_with fail
 refine (crcMore_any 0 s w (by decide) hs).mono ?_
 rintro e w1 ⟨rfl, hb1⟩
 generalize crcM 0 s.data.toList = n at *
 have HS := Lib.hid hS; clear hS
 have HB := Lib.hid hb1; clear hb1
 go_wp2_with fail
 refine (bytes_any _ _ (w1.heap.size + 1) [n % 256, n / 256 % 256, n / 65536 % 256, n / 16777216 % 256] _ (by simp) ?_ (by simp) ?_).mono ?_
 ·refine .inr ⟨w1.heap.size, 0, rfl, by omega, fun i j v hv => ?_⟩
  match i, j, hv with
  | 0, 0, hv => simp [ei64] at hv; subst hv; simp [go_sem]
  | 1, 0, hv => simp [ei64] at hv; subst hv; simp [go_sem]
  | 2, 0, hv => simp [ei64] at hv; subst hv; simp [go_sem]
  | 3, 0, hv => simp [ei64] at hv; subst hv; simp [go_sem]; omega
  | 0, j + 1, hv => simp [ei64] at hv
  | 1, j + 1, hv => simp [ei64] at hv
  | 2, j + 1, hv => simp [ei64] at hv
  | 3, j + 1, hv => simp [ei64] at hv
  | i + 4, j, hv => simp at hv
 ·intro x hx; simp at hx; rcases hx with rfl | rfl | rfl | rfl <;> omega
 rintro e w2 ⟨rfl, hb2⟩
 have HB2 := Lib.hid hb2; clear hb2
 have hsz : (ByteArray.mk (sealB n).toArray).size = 4 := rfl
 have hT : ByteArray.mk (List.map UInt8.ofNat [n % 256, n / 256 % 256, n / 65536 % 256, n / 16777216 % 256]).toArray = ByteArray.mk (sealB n).toArray := rfl
 rw [hT]
 generalize ByteArray.mk (sealB n).toArray = T at *
 clear hT
 go_wp2_with fail
 go_ret
 refine ⟨congrArg Ending.returned (congrArg Value.string HS.out.symm), ?_⟩
 exact HB.out.trans (((below_lit w1 _).trans (HB2.out.mono (by simp))).mono HB.out.size)
set_option maxHeartbeats 800000 in
theorem opened_any (s : ByteArray) (w : World) (hs : s.size ≤ 140737488351232) :
 Calls Try.prog 51 #[.string s] w fun e w' => e = .returned (.tuple #[.string (openR s).1, .int .i64 (openR s).2]) ∧ Below w.heap.size w w' := by
 by_cases h4 : s.size < 4
 ·have hr : openR s = (⟨#[]⟩, 3) := by simp [openR, h4]
  rw [hr]
  go_enter Try.func51, Try.ntmps51
  go_wp2_with fail
  go_ret2
  exact ⟨rfl, Below.refl _ _⟩
 ·have hex := extract_size s (by omega)
  by_cases hq : sealS (s.extract 0 (s.size - 4)) = s
  ·have hr : openR s = (s.extract 0 (s.size - 4), 0) := by simp [openR, h4, hq]
   rw [hr]
   have HQ := Lib.hid hq; clear hq hr
   go_enter Try.func51, Try.ntmps51
   go_wp2_with fail
   refine (sealed_any _ _ (by omega)).mono ?_
   rintro e w1 ⟨rfl, hb⟩
   rw [HQ.out]
   have HB := Lib.hid hb; clear hb
   go_wp2_with fail
   go_ret2
   exact ⟨rfl, HB.out⟩
  ·have hr : openR s = (⟨#[]⟩, 5) := by simp [openR, h4, hq]
   rw [hr]
   go_enter Try.func51, Try.ntmps51
   go_wp2_with fail
   refine (sealed_any _ _ (by omega)).mono ?_
   rintro e w1 ⟨rfl, hb⟩
   have HB := Lib.hid hb; clear hb hr hex
   generalize sealS (s.extract 0 (s.size - 4)) = t at *
   have hne := str_ne hq
   clear hq
   go_wp2_with fail
   go_ret2
   exact ⟨rfl, HB.out⟩
end Go.Proofs.Ytdkmndimmpilaaa
namespace Go.Proofs.Ytdkmndimmpilaaa
set_option linter.all false
open Go.RowKit
def packF : Nat → Nat → List UInt8
 | 0, n => [UInt8.ofNat n]
 | f + 1, n => if n < 128 then [UInt8.ofNat n] else UInt8.ofNat (128 + n % 128) :: packF f (n / 128)
def packB (n : Nat) : List UInt8 := packF 9 n
def packS (n : Nat) : ByteArray := ⟨(packB n).toArray⟩
theorem packF_len (f n : Nat) : 1 ≤ (packF f n).length ∧ (packF f n).length ≤ f + 1 := by
 induction f generalizing n with
 | zero => simp [packF]
 | succ f ih =>
  have := ih (n / 128)
  simp only [packF]; split <;> simp <;> omega
theorem packF_small (f n : Nat) (h : n < 128) : packF f n = [UInt8.ofNat n] := by cases f <;> simp [packF, h]
def unfN (n : Nat) : Int := if n % 2 = 0 then (n / 2 : Nat) else -((n / 2 : Nat) : Int) - 1
theorem xor_i64_ones (x : Nat) (hx : x < 9223372036854775808) : bits .xor .i64 (x : Int) (-1) = -(x : Int) - 1 := by
 show IntKind.i64.wrap ((BitVec.ofInt 64 (x : Int) ^^^ BitVec.ofInt 64 (-1)).toNat : Int) = _
 rw [BitVec.xor_comm]
 exact Lib.i64_not x hx
theorem xor_i64_zero (x : Nat) (hx : x < 9223372036854775808) : bits .xor .i64 (x : Int) 0 = (x : Int) := by
 show IntKind.i64.wrap ((BitVec.ofInt 64 (x : Int) ^^^ BitVec.ofInt 64 0).toNat : Int) = _
 rw [show BitVec.ofInt 64 0 = 0#64 from by decide, BitVec.xor_zero, BitVec.ofInt_natCast, BitVec.toNat_ofNat, IntKind.wrap_i64]
 omega
set_option maxHeartbeats 800000 in
theorem unfold_any (n : Nat) (h : n < 18446744073709551616) (w : World) :
 Calls Try.prog 82 #[.int .u64 n] w fun e w' => e = .returned (.int .i64 (unfN n)) ∧ w = w' := by
 go_enter Try.func82, Try.ntmps82
 go_wp2_with fail
 go_returns
 refine ⟨ret_i64 ?_, rfl⟩
 rw [Lib.u64_and1 _ (by omega) (by omega)]
 unfold unfN wrap64
 by_cases h0 : n % 2 = 0
 ·rw [if_pos h0, show ((n : Int) % 2) = 0 from by omega, show ((n : Int) / 2) = ((n / 2 : Nat) : Int) from by omega]
  exact xor_i64_zero _ (by omega)
 ·rw [if_neg h0, show ((n : Int) % 2) = 1 from by omega, show ((n : Int) / 2) = ((n / 2 : Nat) : Int) from by omega]
  exact xor_i64_ones _ (by omega)
set_option maxHeartbeats 800000 in
theorem unfolded_any (n : Nat) (h : n < 18446744073709551616) (w : World) :
 Calls Try.prog 85 #[.int .u64 n] w fun e w' => e = .returned (.int .i64 (unfN n)) ∧ w = w' := by
 by_cases h0 : n % 2 = 0
 ·go_enter Try.func85, Try.ntmps85
  go_wp2_with fail
  go_returns
  refine ⟨ret_i64 ?_, rfl⟩
  unfold unfN; rw [if_pos h0]; omega
 ·go_enter Try.func85, Try.ntmps85
  go_wp2_with fail
  go_returns
  refine ⟨ret_i64 ?_, rfl⟩
  unfold unfN; rw [if_neg (by omega)]; omega
end Go.Proofs.Ytdkmndimmpilaaa
namespace Go.Proofs.Ytdkmndimmpilaaa
set_option linter.all false
open Go.RowKit
set_option maxHeartbeats 1000000 in
set_option maxRecDepth 20000 in
theorem packed_any (f : Nat) : f ≤ 9 → ∀ (n : Nat) (w : World), n < 18446744073709551616 → n < 128 ^ (f + 1) →
 Calls Try.prog 45 #[.int .u64 n] w fun e w' => e = .returned (.string ⟨(packF f n).toArray⟩) ∧ Below w.heap.size w w' := by
 induction f with
 | zero =>
  intro _ n w h hf
  have h1 : n < 128 := by simpa using hf
  clear hf
  rw [packF_small 0 n h1]
  go_enter Try.func45, Try.ntmps45
  go_wp2_with fail
  refine (bytes_any _ _ (w.heap.size + 1) [n] _ (by simp) ?_ (by simp) (by simp; omega)).mono ?_
  ·refine .inr ⟨w.heap.size, 0, rfl, by omega, fun i j v hv => ?_⟩
   match i, j, hv with
   | 0, 0, hv => simp [ei64] at hv; subst hv; simp [go_sem]
   | 0, j + 1, hv => simp [ei64] at hv
   | i + 1, j, hv => simp at hv
  rintro e w1 ⟨rfl, hb⟩
  have HB := PLift.up (((below_lit w _).trans (hb.mono (by simp))))
  clear hb
  go_wp2_with fail
  go_returns
  exact ⟨rfl, HB.down⟩
 | succ f ih =>
  intro hf9 n w h hf
  by_cases h1 : n < 128
  ·clear ih hf
   rw [packF_small _ n h1]
   go_enter Try.func45, Try.ntmps45
   go_wp2_with fail
   refine (bytes_any _ _ (w.heap.size + 1) [n] _ (by simp) ?_ (by simp) (by simp; omega)).mono ?_
   ·refine .inr ⟨w.heap.size, 0, rfl, by omega, fun i j v hv => ?_⟩
    match i, j, hv with
    | 0, 0, hv => simp [ei64] at hv; subst hv; simp [go_sem]
    | 0, j + 1, hv => simp [ei64] at hv
    | i + 1, j, hv => simp at hv
   rintro e w1 ⟨rfl, hb⟩
   have HB := PLift.up (((below_lit w _).trans (hb.mono (by simp))))
   clear hb
   go_wp2_with fail
   go_returns
   exact ⟨rfl, HB.down⟩
  ·have hq : n / 128 < 128 ^ (f + 1) := by rw [Nat.pow_succ] at hf; exact Nat.div_lt_of_lt_mul (by omega)
   have IH := PLift.up (fun w => ih (by omega) (n / 128) w (by omega) hq)
   have hp : packF (f + 1) n = UInt8.ofNat (128 + n % 128) :: packF f (n / 128) := by simp [packF, h1]
   have HP := PLift.up hp
   have hl := (packF_len f (n / 128)).2
   clear ih hf hq hp
   go_enter Try.func45, Try.ntmps45
   go_wp2_with fail
   refine (bytes_any _ _ (w.heap.size + 1) [128 + n % 128] _ (by simp) ?_ (by simp) (by simp; omega)).mono ?_
   ·refine .inr ⟨w.heap.size, 0, rfl, by omega, fun i j v hv => ?_⟩
    match i, j, hv with
    | 0, 0, hv => simp [ei64] at hv; subst hv; simp [go_sem]
    | 0, j + 1, hv => simp [ei64] at hv
    | i + 1, j, hv => simp at hv
   rintro e w1 ⟨rfl, hb⟩
   have HB := PLift.up (((below_lit w _).trans (hb.mono (by simp))))
   clear hb
   have hsz := HB.down.size
   obtain ⟨T1, hT1⟩ : ∃ T1, T1 = ByteArray.mk (List.map UInt8.ofNat [128 + n % 128]).toArray := ⟨_, rfl⟩
   have hs1 : T1.size = 1 := by rw [hT1]; rfl
   have HQ : PLift (T1 ++ ByteArray.mk (packF f (n / 128)).toArray = ByteArray.mk (packF (f + 1) n).toArray) := PLift.up (by rw [HP.down, hT1]; rfl)
   rw [← hT1]
   clear hT1
   go_wp2_with fail
   refine (IH.down _).mono ?_
   rintro e w2 ⟨rfl, hb2⟩
   have HB2 := PLift.up (HB.down.trans (hb2.mono hsz))
   clear hb2
   have hpl : (ByteArray.mk (packF f (n / 128)).toArray).size ≤ f + 1 := by show (packF f (n / 128)).toArray.size ≤ f + 1; simpa using hl
   generalize ByteArray.mk (packF f (n / 128)).toArray = T at *
   clear hl
   go_wp2_with fail
   go_returns
   exact ⟨congrArg (fun s => Ending.returned (.string s)) HQ.down, HB2.down⟩
def bC (l : List UInt8) : List Value := l.map fun b => .int .u8 (b.toNat : Int)
theorem or128 (m : Nat) : bits .or .u8 ((m : Int) % 256) 128 = ((128 + m % 128 : Nat) : Int) := by
 rw [Lib.u8_or128_any _ (by omega) (by omega)]; omega
set_option maxHeartbeats 1000000 in
set_option maxRecDepth 20000 in
theorem put_any (n : Nat) (h : n < 18446744073709551616) (w : World) :
 Calls Try.prog 75 #[.int .u64 n] w fun e w' => e = .returned (.string (packS n)) ∧ Below w.heap.size w w' := by
 go_enter Try.func75, Try.ntmps75
 go_wp2_with fail
 go_loopw [0, 3] (fun mv v wr => ∃ (m f : Nat) (done : List UInt8), mv = .int .u64 m ∧ m < 18446744073709551616 ∧ Hid (m < 128 ^ (f + 1) ∧ done ++ packF f m = packB n ∧ done.length + f = 9 ∧ wr.ownsRow w.heap.size 5 1 v done.length (bC done) ∧ Below w.heap.size w wr)) (fun mv _ _ => (intOf mv).toNat)
 case atStart => exact ⟨n, 9, [], rfl, h, by simpa using Nat.lt_of_lt_of_le h (by decide), rfl, rfl, ⟨by simp [bC], .inl ⟨rfl, rfl⟩⟩, Below.refl _ _⟩
 case round =>
  obtain ⟨m, f, done, rfl, hm, hI⟩ := hrel
  have hor := or128 m
  have hdl : done.length ≤ 9 := by have := hI.out.2.2.1; omega
  have hB := hI.out.2.2.2.2.size
  by_cases h8 : 128 ≤ m
  ·obtain ⟨f, rfl⟩ : ∃ f', f = f' + 1 := by
    cases f with
    | zero => have := hI.out.1; simp at this; omega
    | succ f => exact ⟨f, rfl⟩
   have HI := PLift.up hI.out
   clear hI
   go_wp2_with (at_builtin; refine wpApp _ rfl _ _ _ rfl w.heap.size _ _ _ elT_u8 _ done.length (bC done) rfl (HI.down.2.2.2.1.alloc _) (some ⟨wr.heap.size, 0, none⟩) 1 1 [.int .u8 ((128 + m % 128 : Nat) : Int)] rfl ?_ ?_ ?_ ?_ ?_ ?_ ?_ ?_)
   ·rfl
   ·simp
   ·intro ad had j u hu
    obtain rfl := Option.some.inj had
    match j, hu with
    | 0, hu => simp at hu; subst hu; simp [Addr.add_lit, go_sem]
    | j + 1, hu => simp at hu
   ·simp [Value.oneCell']
   ·simp only [maxLen]; omega
   ·omega
   ·simp; omega
   ·intro v' w2 hown hg _
    have hbb : Below w.heap.size w w2 := (HI.down.2.2.2.2.alloc (by omega) _).grown hg (by simp; omega) (fun q hq => (HI.down.2.2.2.1.lt q hq).1)
    have HO := PLift.up hown
    have HBB := PLift.up hbb
    clear hown hbb hg
    go_wp2_with fail
    go_roundw
    case rel =>
     have hp : packF (f + 1) m = UInt8.ofNat (128 + m % 128) :: packF f (m / 128) := by simp [packF]; omega
     refine ⟨m / 128, f, done ++ [UInt8.ofNat (128 + m % 128)], ?_, by omega, ?_, ?_, ?_, ?_, HBB.down⟩
     ·simp
     ·have := HI.down.1; rw [Nat.pow_succ] at this; exact Nat.div_lt_of_lt_mul (by omega)
     ·have := HI.down.2.1; rw [hp] at this; simpa using this
     ·have := HI.down.2.2.1; simp; omega
     ·have := HO.down
      have e : bC (done ++ [UInt8.ofNat (128 + m % 128)]) = bC done ++ [.int .u8 ((128 + m % 128 : Nat) : Int)] := by
       simp only [bC, List.map_append, List.map_cons, List.map_nil]
       rw [u8_ofNat_toNat _ (by omega)]
      rw [e]; simpa using this
    case measure => simp [intOf]; omega
  ·have HI := PLift.up hI.out
   clear hI
   go_wp2_with (at_builtin; refine wpApp _ rfl _ _ _ rfl w.heap.size _ _ _ elT_u8 _ done.length (bC done) rfl (HI.down.2.2.2.1.alloc _) (some ⟨wr.heap.size, 0, none⟩) 1 1 [.int .u8 (m : Int)] rfl ?_ ?_ ?_ ?_ ?_ ?_ ?_ ?_)
   ·rfl
   ·simp
   ·intro ad had j u hu
    obtain rfl := Option.some.inj had
    match j, hu with
    | 0, hu => simp at hu; subst hu; simp [Addr.add_lit, go_sem]
    | j + 1, hu => simp at hu
   ·simp [Value.oneCell']
   ·simp only [maxLen]; omega
   ·omega
   ·simp; omega
   ·intro v' w2 hown hg _
    have hbb : Below w.heap.size w w2 := (HI.down.2.2.2.2.alloc (by omega) _).grown hg (by simp; omega) (fun q hq => (HI.down.2.2.2.1.lt q hq).1)
    have hfin : done ++ [UInt8.ofNat m] = packB n := by have := HI.down.2.1; rw [packF_small f m (by omega)] at this; exact this
    have e : bC done ++ [.int .u8 (m : Int)] = bC (packB n) := by
     rw [← hfin]
     simp only [bC, List.map_append, List.map_cons, List.map_nil]
     rw [u8_ofNat_toNat _ (by omega)]
    have hlen : done.length + 1 = (packB n).length := by rw [← hfin]; simp
    rw [e, hlen] at hown
    rcases hown.2 with ⟨_, h0⟩ | ⟨g, cap, cur, rfl, _, hgc, _⟩
    ·omega
    have hcell := hown.cells (g := g) rfl
    have hcv := run_convert_bytes_back (P := Try.prog) w2 111 9 5 ⟨g, 0, none⟩ cap (packB n) Try.underlying111 Try.underlying5 Try.underlying9 (by
     intro j hj
     exact hcell j _ (by simp only [bC, List.getElem?_map, List.getElem?_eq_getElem hj, Option.map_some]))
    have HBB := PLift.up hbb
    clear hown hbb hg hcell e hfin HI hgc
    generalize hq : (packB n).length = q at *
    clear hlen hdl hB
    go_wp2_with fail
    go_returns
    exact ⟨rfl, HBB.down⟩
end Go.Proofs.Ytdkmndimmpilaaa
namespace Go.Proofs.Ytdkmndimmpilaaa
set_option linter.all false
open Go.RowKit
def vals (l : List UInt8) : Nat := l.foldr (fun b a => b.toNat % 128 + 128 * a) 0
theorem vals_append (l k : List UInt8) : vals (l ++ k) = vals l + 128 ^ l.length * vals k := by
 induction l with
 | nil => simp [vals]
 | cons b l ih =>
  have e : vals (b :: l ++ k) = b.toNat % 128 + 128 * vals (l ++ k) := rfl
  have e2 : vals (b :: l) = b.toNat % 128 + 128 * vals l := rfl
  rw [e, e2, ih, List.length_cons, Nat.pow_succ, Nat.mul_add, Nat.mul_comm (128 ^ l.length) 128, Nat.mul_assoc]; omega
theorem vals_lt (l : List UInt8) : vals l < 128 ^ l.length := by
 induction l with
 | nil => simp [vals]
 | cons b l ih =>
  have e2 : vals (b :: l) = b.toNat % 128 + 128 * vals l := rfl
  rw [e2, List.length_cons, Nat.pow_succ]; omega
def valT (s : ByteArray) (i : Nat) : Nat := vals (s.data.toList.take i) % 18446744073709551616
def getR (s : ByteArray) : Nat × ByteArray × Int :=
 match s.data.toList.findIdx? (fun b => b < 128) with
 | some i => if i < 10 ∧ packS (valT s (i + 1)) = s.extract 0 (i + 1) then (valT s (i + 1), s.extract (i + 1) s.size, 0) else (0, ⟨#[]⟩, 4)
 | none => (0, ⟨#[]⟩, if s.size < 10 then 3 else 4)
def Hits (s : ByteArray) (i : Nat) : Prop := ∃ h : i < s.size, s[i].toNat < 128 ∧ ∀ j (hj : j < i), 128 ≤ (s[j]'(by omega)).toNat
theorem getD_byte (s : ByteArray) (i : Nat) (h : i < s.size) : s.data.toList[i]'(by simpa using h) = s[i] := rfl
theorem cases_hit (s : ByteArray) : (∃ i, Hits s i ∧ s.data.toList.findIdx? (fun b => b < 128) = some i) ∨ ((∀ j (hj : j < s.size), 128 ≤ s[j].toNat) ∧ s.data.toList.findIdx? (fun b => b < 128) = none) := by
 cases h : s.data.toList.findIdx? (fun b => b < 128) with
 | some i =>
  refine .inl ⟨i, ?_, rfl⟩
  rw [List.findIdx?_eq_some_iff_getElem] at h
  obtain ⟨hi, h1, h2⟩ := h
  refine ⟨by simpa using hi, ?_, fun j hj => ?_⟩
  ·have h1' : (s.data[i]'(by simpa using hi)).toNat < 128 := by simpa [UInt8.lt_iff_toNat_lt] using h1
   exact h1'
  ·have := h2 j hj
   have hi' : i < s.data.size := by simpa using hi
   have h2' : 128 ≤ (s.data[j]'(by omega)).toNat := by simpa [UInt8.lt_iff_toNat_lt] using this
   exact h2'
 | none =>
  refine .inr ⟨fun j hj => ?_, rfl⟩
  rw [List.findIdx?_eq_none_iff] at h
  have := h s[j] (by rw [← getD_byte s j hj]; exact List.getElem_mem _)
  simpa [UInt8.lt_iff_toNat_lt] using this
theorem valT_zero (s : ByteArray) : valT s 0 = 0 := rfl
theorem valT_succ (s : ByteArray) (i : Nat) (h : i < s.size) (h9 : i < 10) : valT s (i + 1) = valT s i + s[i].toNat % 128 * 128 ^ i % 18446744073709551616 ∧ valT s i < 128 ^ i ∧ 128 ^ i * 2 ≤ 18446744073709551616 := by
 unfold valT
 rw [bytes_snoc s i h, vals_append]
 have hl : (s.data.toList.take i).length = i := by simp; omega
 have hv := vals_lt (s.data.toList.take i)
 rw [hl] at hv ⊢
 have e : vals [s[i]] = s[i].toNat % 128 := by simp [vals]
 rw [e]
 have hp : 128 ^ i * 2 ≤ 18446744073709551616 := by
  have : 128 ^ i ≤ 128 ^ 9 := Nat.pow_le_pow_right (by decide) (by omega)
  omega
 generalize vals (s.data.toList.take i) = v at *
 have hm : v % 18446744073709551616 = v := Nat.mod_eq_of_lt (by omega)
 rw [hm]
 refine ⟨?_, hv, hp⟩
 rw [Nat.mul_comm (128 ^ i)]
 generalize s[i].toNat % 128 = x at *
 have hdv : ∃ q, 18446744073709551616 = 128 ^ i * q := by
  refine ⟨2 ^ (64 - 7 * i), ?_⟩
  rw [show (128 : Nat) = 2 ^ 7 from rfl, ← Nat.pow_mul, ← Nat.pow_add, show 7 * i + (64 - 7 * i) = 64 from by omega]
 obtain ⟨q, hq⟩ := hdv
 rw [hq, Nat.mul_comm x, Nat.mul_mod_mul_left, Nat.add_mod, Nat.mul_mod_mul_left, Nat.mod_eq_of_lt (show v < 128 ^ i * q from by rw [← hq]; omega)]
 have hq0 : 0 < q := by rcases Nat.eq_zero_or_pos q with rfl | h0; · simp at hq
                        ·exact h0
 have hxq : x % q < q := Nat.mod_lt _ hq0
 apply Nat.mod_eq_of_lt
 have : 128 ^ i * (x % q) + 128 ^ i ≤ 128 ^ i * q := by rw [← Nat.mul_succ]; exact Nat.mul_le_mul_left _ hxq
 omega
theorem getR_hit {s : ByteArray} {i : Nat} (h : s.data.toList.findIdx? (fun b => b < 128) = some i) : getR s = if i < 10 ∧ packS (valT s (i + 1)) = s.extract 0 (i + 1) then (valT s (i + 1), s.extract (i + 1) s.size, 0) else (0, ⟨#[]⟩, 4) := by simp [getR, h]
theorem getR_none {s : ByteArray} (h : s.data.toList.findIdx? (fun b => b < 128) = none) : getR s = (0, ⟨#[]⟩, if s.size < 10 then 3 else 4) := by simp [getR, h]
structure Ends (s : ByteArray) (e : Nat) (r : Nat × ByteArray × Int) : Prop where
 le : e ≤ s.size
 big : ∀ j (hj : j < s.size), j < e → 128 ≤ s[j].toNat
 small : ∀ (h : e < s.size), s[e].toNat < 128
 res : getR s = r
theorem ends_any (s : ByteArray) : ∃ e r, Ends s e r ∧ (e < s.size → r = if e < 10 ∧ packS (valT s (e + 1)) = s.extract 0 (e + 1) then (valT s (e + 1), s.extract (e + 1) s.size, 0) else (0, ⟨#[]⟩, 4)) ∧ (e = s.size → r = (0, ⟨#[]⟩, if s.size < 10 then 3 else 4)) := by
 rcases cases_hit s with ⟨i, ⟨h1, h2, h3⟩, h4⟩ | ⟨h1, h2⟩
 ·exact ⟨i, _, ⟨by omega, fun j _ hj => h3 j hj, fun _ => h2, rfl⟩, fun _ => getR_hit h4, fun h => by omega⟩
 ·exact ⟨s.size, _, ⟨Nat.le_refl _, fun j hj _ => h1 j hj, fun h => absurd h (Nat.lt_irrefl _), rfl⟩, fun h => absurd h (Nat.lt_irrefl _), fun _ => getR_none h2⟩
set_option maxHeartbeats 2000000 in
set_option maxRecDepth 20000 in
theorem get_any (s : ByteArray) (w : World) (hs : s.size ≤ 140737488351232) :
 Calls Try.prog 81 #[.string s] w fun e w' => e = .returned (.tuple #[.int .u64 (getR s).1, .string (getR s).2.1, .int .i64 (getR s).2.2]) ∧ Below w.heap.size w w' := by
 obtain ⟨e, r, hE, hr1, hr2⟩ := ends_any s
 rw [hE.res]
 have HE := PLift.up hE
 have HR1 := PLift.up hr1
 have HR2 := PLift.up hr2
 have hle := hE.le
 clear hE hr1 hr2
 go_enter Try.func81, Try.ntmps81
 go_wp2_with fail
 go_loop [5, 6] (fun nv iv => ∃ k : Nat, k ≤ e ∧ k ≤ 10 ∧ iv = .int .i64 k ∧ nv = .int .u64 (valT s k)) (fun _ iv => 10 - (intOf iv).toNat)
 case atStart => exact ⟨0, by omega, by omega, rfl, by rw [valT_zero]; rfl⟩
 case round =>
  obtain ⟨k, hk, hk10, rfl, rfl⟩ := hrel
  by_cases hlt : k < 10
  ·by_cases hks : k < s.size
   ·obtain ⟨hv1, hv2, hv3⟩ := valT_succ s k hks hlt
    have hb : k < e → 128 ≤ s[k].toNat := fun h => HE.down.big k hks h
    have hsm : ¬ k < e → s[k].toNat < 128 := (fun h => by
     obtain rfl : k = e := by omega
     exact HE.down.small hks)
    have hx := UInt8.toNat_lt s[k]
    have hn : bits .or .u64 (valT s k : Nat) (IntKind.u64.wrap (IntKind.u64.wrap (bits .and .u8 (s[k].toNat : Int) 127) * 2 ^ (7 * k))) = ((valT s (k + 1) : Nat) : Int) := by
     rw [u8_and127 _ (by omega) (by omega), IntKind.wrap_u64, IntKind.wrap_u64, hv1]
     have e1 : ((s[k].toNat : Int) % 128 % 18446744073709551616) = ((s[k].toNat % 128 : Nat) : Int) := by omega
     have e2 : ((2 : Int) ^ (7 * k)) = ((128 ^ k : Nat) : Int) := by rw [show (128 : Nat) ^ k = 2 ^ (7 * k) from by rw [Nat.pow_mul]]; simp
     rw [e1, e2, ← Int.natCast_mul]
     have e3 : ((s[k].toNat % 128 * 128 ^ k : Nat) : Int) % 18446744073709551616 = ((s[k].toNat % 128 * 128 ^ k % 18446744073709551616 : Nat) : Int) := by omega
     rw [e3, u64_or_nat _ _ (by omega) (by omega)]
     congr 1
     rw [Nat.or_comm, nat_join (7 * k) _ _ ?_ ?_, Nat.add_comm]
     ·rw [show (2 : Nat) ^ (7 * k) = 128 ^ k from by rw [Nat.pow_mul]]
      have hd : 128 ^ k ∣ 18446744073709551616 := by
       refine ⟨2 ^ (64 - 7 * k), ?_⟩
       rw [show (128 : Nat) = 2 ^ 7 from rfl, ← Nat.pow_mul, ← Nat.pow_add, show 7 * k + (64 - 7 * k) = 64 from by omega]
      rw [Nat.mod_mod_of_dvd _ hd]; exact Nat.mul_mod_left _ _
     ·rw [show (2 : Nat) ^ (7 * k) = 128 ^ k from by rw [Nat.pow_mul]]; exact hv2
    have hvl : valT s (k + 1) < 18446744073709551616 := Nat.mod_lt _ (by decide)
    clear hv1 hv2 hv3
    by_cases hke : k < e
    ·have hbx := hb hke
     clear hb hsm
     go_wp2_with fail
     go_round
     case rel => exact ⟨k + 1, by omega, by omega, by go_num, rfl⟩
     case measure => simp [intOf]; omega
    ·have hsx := hsm hke
     obtain rfl : k = e := by omega
     clear hb hsm
     have hr := HR1.down hks
     have k0 : (0 : Int) ≤ (k : Int) + 1 := by omega
     have k1 : (k : Int) + 1 ≤ (s.size : Int) := by omega
     have k2 : IntKind.i64.wrap ((k : Int) + 1) = (k : Int) + 1 := IntWalk.i64_in _ (by omega)
     have k3 : ((k : Int) + 1).toNat = k + 1 := by omega
     by_cases hq : packS (valT s (k + 1)) = s.extract 0 (k + 1)
     ·rw [if_pos ⟨hlt, hq⟩] at hr
      subst hr
      have P := PLift.up (fun w => put_any (valT s (k + 1)) hvl w)
      rw [hq] at P
      clear hq
      go_wp2_with fail
      go_region_held3 (fun _ => True) (trivial) (first | (go_at_call 75; refine (P.down _).mono ?_; rintro e w1 ⟨rfl, hb1⟩; have HB1 := PLift.up hb1; clear hb1))
      all_goals go_wp2_with fail
      all_goals (go_quiet (fail))
      all_goals go_wp2_with fail
      all_goals go_returns
      all_goals refine ⟨?_, ((Below.refl _ _).drew.trans HB1.down).drewn _⟩
      all_goals (simp; done)
     ·rw [if_neg (fun h => hq h.2)] at hr
      subst hr
      have P := PLift.up (fun w => put_any (valT s (k + 1)) hvl w)
      generalize packS (valT s (k + 1)) = T at *
      have hne := str_ne hq
      clear hq
      go_wp2_with fail
      go_region_held3 (fun _ => True) (trivial) (first | (go_at_call 75; refine (P.down _).mono ?_; rintro e w1 ⟨rfl, hb1⟩; have HB1 := PLift.up hb1; clear hb1))
      all_goals go_wp2_with fail
      all_goals go_returns
      all_goals refine ⟨?_, (Below.refl _ _).drew.trans HB1.down⟩
      all_goals (simp; done)
   ·have hr := HR2.down (by omega)
    have hif : (if s.size < 10 then (3 : Int) else 4) = 3 := if_pos (by omega)
    rw [hif] at hr
    subst hr
    go_wp2_with fail
    go_returns
    exact ⟨rfl, Below.refl _ _⟩
  ·by_cases hks : k < s.size
   ·have hr : r = (0, ⟨#[]⟩, 4) := by
     by_cases he : e < s.size
     ·rw [HR1.down he, if_neg (by omega)]
     ·rw [HR2.down (by omega), if_neg (by omega)]
    subst hr
    go_wp2_with fail
    go_returns
    exact ⟨rfl, Below.refl _ _⟩
   ·have hr := HR2.down (by omega)
    have hif : (if s.size < 10 then (3 : Int) else 4) = 4 := if_neg (by omega)
    rw [hif] at hr
    subst hr
    go_wp2_with fail
    go_returns
    exact ⟨rfl, Below.refl _ _⟩
end Go.Proofs.Ytdkmndimmpilaaa
namespace Go.Proofs.Ytdkmndimmpilaaa
set_option linter.all false
open Go.RowKit
theorem packedS_any (n : Nat) (w : World) (h : n < 18446744073709551616) :
 Calls Try.prog 45 #[.int .u64 n] w fun e w' => e = .returned (.string (packS n)) ∧ Below w.heap.size w w' := packed_any 9 (Nat.le_refl _) n w h (Nat.lt_of_lt_of_le h (by decide))
def valD (s : ByteArray) (k m : Nat) : Nat := vals ((s.data.toList.take m).drop k) % 18446744073709551616
theorem valD_end (s : ByteArray) (m : Nat) : valD s m m = 0 := by
 unfold valD; rw [List.drop_of_length_le (by simp; omega)]; rfl
theorem valD_zero (s : ByteArray) (m : Nat) : valD s 0 m = valT s m := rfl
theorem valD_step (s : ByteArray) (k m : Nat) (h : k < m) (hm : m ≤ s.size) : valD s k m = (128 * valD s (k + 1) m + (s[k]'(by omega)).toNat % 128) % 18446744073709551616 := by
 unfold valD
 have hl : k < (s.data.toList.take m).length := by simp; omega
 rw [List.drop_eq_getElem_cons hl]
 have e : (s.data.toList.take m)[k] = s[k]'(by omega) := by rw [List.getElem_take]; rfl
 rw [e]
 have e2 : vals (s[k]'(by omega) :: (s.data.toList.take m).drop (k + 1)) = (s[k]'(by omega)).toNat % 128 + 128 * vals ((s.data.toList.take m).drop (k + 1)) := rfl
 rw [e2]; omega
set_option maxHeartbeats 2000000 in
set_option maxRecDepth 20000 in
theorem unpacked_any (s : ByteArray) (w : World) (hs : s.size ≤ 140737488351232) :
 Calls Try.prog 84 #[.string s] w fun e w' => e = .returned (.tuple #[.int .u64 (getR s).1, .string (getR s).2.1, .int .i64 (getR s).2.2]) ∧ Below w.heap.size w w' := by
 obtain ⟨e, r, hE, hr1, hr2⟩ := ends_any s
 rw [hE.res]
 have HE := PLift.up hE
 have HR1 := PLift.up hr1
 have HR2 := PLift.up hr2
 have hle := hE.le
 clear hE hr1 hr2
 go_enter Try.func84, Try.ntmps84
 go_wp2_with fail
 go_loop [5, 11] (fun ev iv => ∃ k : Nat, k ≤ e ∧ iv = .int .i64 k ∧ ev = .int .i64 (-1)) (fun _ iv => s.size - (intOf iv).toNat)
 case atStart => exact ⟨0, by omega, rfl, rfl⟩
 case round =>
  obtain ⟨k, hk, rfl, rfl⟩ := hrel
  by_cases hks : k < s.size
  ·by_cases hke : k < e
   ·have hb := HE.down.big k hks hke
    go_wp2_with fail
    go_round
    case rel => exact ⟨k + 1, by omega, by go_num, rfl⟩
    case measure => simp [intOf]; omega
   ·obtain rfl : k = e := by omega
    have hsm := HE.down.small hks
    by_cases h10 : k < 10
    ·go_wp2_with fail
     all_goals
      go_loop [7, 8] (fun nv iv => ∃ (j : Nat) (z : Int), j ≤ k + 1 ∧ iv = .int .i64 z ∧ -1 ≤ z ∧ z < k + 1 ∧ nv = .int .u64 (valD s j (k + 1)) ∧ Hid (z = (j : Int) - 1)) (fun _ iv => (intOf iv + 1).toNat)
      case atStart => exact ⟨k + 1, k, by omega, rfl, by omega, by omega, by rw [valD_end]; rfl, by show _ = _; omega⟩
      case round =>
       obtain ⟨j, z, hj, rfl, hz1, hz2, rfl, hz⟩ := hrel
       by_cases h0 : 0 ≤ z
       ·obtain ⟨i, rfl⟩ : ∃ i : Nat, z = i := ⟨z.toNat, by omega⟩
        obtain rfl : j = i + 1 := by have := hz.out; omega
        have hst := valD_step s i (k + 1) (by omega) (by omega)
        have hV : valD s (i + 1) (k + 1) < 18446744073709551616 := Nat.mod_lt _ (by decide)
        have HST := PLift.up hst
        clear hst hz
        generalize valD s (i + 1) (k + 1) = V at *
        go_wp2_with fail
        go_round
        case rel =>
         refine ⟨i, (i : Int) - 1, by omega, rfl, by omega, by omega, ?_, rfl⟩
         rw [HST.down]
         have hx := UInt8.toNat_lt s[i]
         have e1 : IntKind.u64.wrap (s[i].toNat : Int) = s[i].toNat := by rw [IntKind.wrap_u64]; omega
         rw [e1, Int.tmod_eq_emod_of_nonneg (by omega), IntKind.wrap_u64, IntKind.wrap_u64]
         congr 1; omega
        case measure => simp [intOf]
       ·obtain rfl : z = -1 := by omega
        obtain rfl : j = 0 := by have := hz.out; omega
        rw [valD_zero]
        have hr := HR1.down hks
        have hvl : valT s (k + 1) < 18446744073709551616 := Nat.mod_lt _ (by decide)
        have k0 : (0 : Int) ≤ (k : Int) + 1 := by omega
        have k1 : (k : Int) + 1 ≤ (s.size : Int) := by omega
        have k2 : IntKind.i64.wrap ((k : Int) + 1) = (k : Int) + 1 := IntWalk.i64_in _ (by omega)
        have k3 : ((k : Int) + 1).toNat = k + 1 := by omega
        by_cases hq : packS (valT s (k + 1)) = s.extract 0 (k + 1)
        ·rw [if_pos ⟨h10, hq⟩] at hr
         subst hr
         have P := PLift.up (fun w => packedS_any (valT s (k + 1)) w hvl)
         rw [hq] at P
         clear hq
         go_wp2_with fail
         go_region_held3 (fun _ => True) (trivial) (first | (go_at_call 45; refine (P.down _).mono ?_; rintro e w1 ⟨rfl, hb1⟩; have HB1 := PLift.up hb1; clear hb1))
         all_goals go_wp2_with fail
         all_goals (go_quiet (fail))
         all_goals go_wp2_with fail
         all_goals go_returns
         all_goals refine ⟨?_, ((Below.refl _ _).drew.trans HB1.down).drewn _⟩
         all_goals (simp; done)
        ·rw [if_neg (fun h => hq h.2)] at hr
         subst hr
         have P := PLift.up (fun w => packedS_any (valT s (k + 1)) w hvl)
         generalize packS (valT s (k + 1)) = T at *
         have hne := str_ne hq
         clear hq
         go_wp2_with fail
         go_region_held3 (fun _ => True) (trivial) (first | (go_at_call 45; refine (P.down _).mono ?_; rintro e w1 ⟨rfl, hb1⟩; have HB1 := PLift.up hb1; clear hb1))
         all_goals go_wp2_with fail
         all_goals go_returns
         all_goals refine ⟨?_, (Below.refl _ _).drew.trans HB1.down⟩
         all_goals (simp; done)
    ·have hr : r = (0, ⟨#[]⟩, 4) := by rw [HR1.down hks, if_neg (by omega)]
     subst hr
     go_wp2_with fail
     go_returns
     exact ⟨rfl, Below.refl _ _⟩
  ·have hr := HR2.down (by omega)
   by_cases h10 : s.size < 10
   ·rw [if_pos h10] at hr
    subst hr
    go_wp2_with fail
    go_returns
    exact ⟨rfl, Below.refl _ _⟩
   ·rw [if_neg h10] at hr
    subst hr
    go_wp2_with fail
    go_returns
    exact ⟨rfl, Below.refl _ _⟩
end Go.Proofs.Ytdkmndimmpilaaa
namespace Go.Proofs.Ytdkmndimmpilaaa
set_option linter.all false
open Go.RowKit
def gaF : Nat → ByteArray → List Int → List Int × Int
 | 0, s, out => if s = ⟨#[]⟩ then (out, 0) else ([], 4)
 | n + 1, s, out => if (getR s).2.2 = 0 then gaF n (getR s).2.1 (out ++ [unfN (getR s).1]) else ([], (getR s).2.2)
def gaR (s : ByteArray) : List Int × Int :=
 if (getR s).2.2 = 0 then (if (getR s).1 ≤ 1000 then gaF (getR s).1 (getR s).2.1 [] else ([], 2)) else ([], (getR s).2.2)
theorem getR_lt (s : ByteArray) : (getR s).1 < 18446744073709551616 ∧ (getR s).2.1.size ≤ s.size ∧ 0 ≤ (getR s).2.2 ∧ (getR s).2.2 ≤ 4 := by
 obtain ⟨e, r, hE, h1, h2⟩ := ends_any s
 rw [hE.res]
 have hle := hE.le
 by_cases he : e < s.size
 ·rw [h1 he]
  split
  ·refine ⟨Nat.mod_lt _ (by decide), ?_, by simp, by simp⟩
   simp only [ByteArray.size_extract]; omega
  ·exact ⟨by decide, Nat.zero_le _, by simp, by simp⟩
 ·rw [h2 (by omega)]
  refine ⟨by simp, Nat.zero_le _, ?_, ?_⟩ <;> (simp only; split <;> omega)
theorem str_empty (s : ByteArray) : (s = ⟨#[]⟩) ↔ s.toList = [] := by
 rw [ByteArray.toList_eq]
 constructor
 ·rintro rfl; rfl
 ·intro h; obtain ⟨⟨l⟩⟩ := s; simp at h; subst h; rfl
set_option maxHeartbeats 2000000 in
set_option maxRecDepth 20000 in
theorem getAll_any (s : ByteArray) (w : World) (hs : s.size ≤ 140737488351232) :
 Calls Try.prog 49 #[.string s] w fun e w' => (∃ v, e = .returned (.tuple #[v, .int .i64 (gaR s).2]) ∧ ∃ n, w'.ownsRow w.heap.size 3 1 v n ((gaR s).1.flatMap ei64)) ∧ Below w.heap.size w w' := by
 have P := PLift.up (get_any s w hs)
 have hgl := getR_lt s
 obtain ⟨r, hr⟩ : ∃ r, r = gaR s := ⟨_, rfl⟩
 rw [← hr]
 unfold gaR at hr
 obtain ⟨R, hR⟩ : ∃ R, R = getR s := ⟨_, rfl⟩
 rw [← hR] at P hgl hr
 obtain ⟨n, s1, e1⟩ := R
 simp only at P hgl hr
 clear hR
 by_cases h0 : e1 = 0
 ·subst h0
  rw [if_pos rfl] at hr
  by_cases hn : n ≤ 1000
  ·rw [if_pos hn] at hr
   have HR := PLift.up hr
   clear hr
   go_enter Try.func49, Try.ntmps49
   go_wp2_with fail
   refine P.down.mono ?_
   rintro e w1 ⟨rfl, hb1⟩
   have B1 := PLift.up hb1
   clear hb1 P
   go_wp2_with fail
   go_loopw [0, 6, 24] (fun sv v iv wr => ∃ (k : Nat) (t : ByteArray) (out : List Int), k ≤ n ∧ iv = .int .u64 k ∧ sv = .string t ∧ t.size ≤ 140737488351232 ∧ Hid (gaF (n - k) t out = gaF n s1 [] ∧ wr.ownsRow w.heap.size 3 1 v k (out.flatMap ei64) ∧ Below w.heap.size w wr)) (fun _ _ iv _ => n - (intOf iv).toNat)
   case atStart => exact ⟨0, s1, [], by omega, rfl, rfl, by omega, rfl, ⟨by simp, .inl ⟨rfl, rfl⟩⟩, B1.down⟩
   case round =>
    obtain ⟨k, t, out, hk, rfl, rfl, ht, hI⟩ := hrel
    have hB := hI.out.2.2.size
    by_cases hlt : k < n
    ·have Q := PLift.up (get_any t wr ht)
     have hql := getR_lt t
     have hst : gaF (n - k) t out = if (getR t).2.2 = 0 then gaF (n - (k + 1)) (getR t).2.1 (out ++ [unfN (getR t).1]) else ([], (getR t).2.2) := by
      rw [show n - k = (n - (k + 1)) + 1 from by omega]; rfl
     obtain ⟨R2, hR2⟩ : ∃ R, R = getR t := ⟨_, rfl⟩
     rw [← hR2] at Q hql hst
     obtain ⟨x, t', e2⟩ := R2
     simp only at Q hql hst
     clear hR2
     have HI := PLift.up hI.out
     clear hI
     by_cases h2 : e2 = 0
     ·subst h2
      rw [if_pos rfl] at hst
      have HST := PLift.up hst
      clear hst
      go_wp2_with fail
      refine Q.down.mono ?_
      rintro e w2 ⟨rfl, hb2⟩
      have HO2 := PLift.up (own_below HI.down.2.1 hb2)
      have B2 := PLift.up (HI.down.2.2.trans (hb2.mono hB))
      have hB2 := B2.down.size
      clear hb2 Q
      go_wp2_with fail
      refine (unfold_any x hql.1 _).mono ?_
      rintro e w2 ⟨rfl, rfl⟩
      generalize hu : unfN x = u
      have HU := PLift.up hu
      clear hu
      go_wp2_with (at_builtin; refine wpApp _ rfl _ _ _ rfl w.heap.size _ _ _ elT_i64 _ k (out.flatMap ei64) rfl (HO2.down.alloc _) (some ⟨w2.heap.size, 0, none⟩) 1 1 [.int .i64 u] rfl ?_ ?_ ?_ ?_ ?_ ?_ ?_ ?_)
      ·rfl
      ·simp
      ·intro ad had j y hy
       obtain rfl := Option.some.inj had
       match j, hy with
       | 0, hy => simp at hy; subst hy; simp [Addr.add_lit, go_sem]
       | j + 1, hy => simp at hy
      ·simp [Value.oneCell']
      ·simp only [maxLen]; omega
      ·omega
      ·simp; omega
      ·intro v' w3 hown hg _
       have hbb : Below w.heap.size w w3 := (B2.down.alloc (by omega) _).grown hg (by simp; omega) (fun q hq => (HO2.down.lt q hq).1)
       obtain ⟨a', c', rfl⟩ := own_slice hown
       have HO := PLift.up hown
       have HBB := PLift.up hbb
       clear hown hbb hg
       go_wp2_with fail
       go_roundw
       case rel =>
        refine ⟨k + 1, t', out ++ [unfN x], by omega, by go_num, rfl, by omega, ?_, ?_, HBB.down⟩
        ·rw [← HST.down]; exact HI.down.1
        ·rw [List.flatMap_append, HU.down]; exact HO.down
       case measure => simp [intOf]; omega
     ·rw [if_neg h2] at hst
      have hr2 := (hst.symm.trans HI.down.1).trans HR.down.symm
      have z1 : (e2 != 0) = true := by simpa using h2
      have z2 : (e2 == 0) = false := by simpa using h2
      subst hr2
      have B1W := PLift.up HI.down.2.2
      clear hst HR HI h2
      go_wp2_with fail
      refine Q.down.mono ?_
      rintro e w2 ⟨rfl, hb2⟩
      have HI2 := PLift.up (B1W.down.trans (hb2.mono hB))
      clear hb2 Q
      go_wp2_with fail
      go_returns
      exact ⟨⟨_, rfl, 0, ⟨by simp, .inl ⟨rfl, rfl⟩⟩⟩, HI2.down⟩
    ·obtain rfl : k = n := by omega
     have hz := hI.out.1
     rw [Nat.sub_self] at hz
     have hz2 : gaF 0 t out = if t = ⟨#[]⟩ then (out, 0) else ([], 4) := rfl
     rw [hz2] at hz
     have HI := PLift.up hI.out
     clear hI hz2
     by_cases ht0 : t = ⟨#[]⟩
     ·rw [if_pos ht0] at hz
      have hr2 := hz.trans HR.down.symm
      subst hr2 ht0
      clear HR
      go_wp2_with fail
      go_returns
      exact ⟨⟨_, rfl, _, HI.down.2.1⟩, HI.down.2.2⟩
     ·rw [if_neg ht0] at hz
      have hr2 := hz.trans HR.down.symm
      subst hr2
      clear HR
      have hte : t.toList.isEmpty = false := by
       cases h : t.toList with
       | nil => exact absurd ((str_empty t).2 h) ht0
       | cons x l => rfl
      have hte2 : ¬ t.toList = [] := fun h => ht0 ((str_empty t).2 h)
      clear ht0
      go_wp2_with fail
      go_returns
      exact ⟨⟨_, rfl, 0, ⟨by simp, .inl ⟨rfl, rfl⟩⟩⟩, HI.down.2.2⟩
  ·rw [if_neg hn] at hr
   subst hr
   go_enter Try.func49, Try.ntmps49
   go_wp2_with fail
   refine P.down.mono ?_
   rintro e w1 ⟨rfl, hb1⟩
   have B1 := PLift.up hb1
   clear hb1 P
   go_wp2_with fail
   go_returns
   exact ⟨⟨_, rfl, 0, ⟨by simp, .inl ⟨rfl, rfl⟩⟩⟩, B1.down⟩
 ·rw [if_neg h0] at hr
  have z1 : (e1 != 0) = true := by simpa using h0
  have z2 : (e1 == 0) = false := by simpa using h0
  subst hr
  clear h0
  go_enter Try.func49, Try.ntmps49
  go_wp2_with fail
  refine P.down.mono ?_
  rintro e w1 ⟨rfl, hb1⟩
  have B1 := PLift.up hb1
  clear hb1 P
  go_wp2_with fail
  go_returns
  exact ⟨⟨_, rfl, 0, ⟨by simp, .inl ⟨rfl, rfl⟩⟩⟩, B1.down⟩
set_option maxHeartbeats 2000000 in
set_option maxRecDepth 20000 in
theorem unpackedAll_any (s : ByteArray) (w : World) (hs : s.size ≤ 140737488351232) :
 Calls Try.prog 52 #[.string s] w fun e w' => (∃ v, e = .returned (.tuple #[v, .int .i64 (gaR s).2]) ∧ ∃ n, w'.ownsRow w.heap.size 3 1 v n ((gaR s).1.flatMap ei64)) ∧ Below w.heap.size w w' := by
 have P := PLift.up (unpacked_any s w hs)
 have hgl := getR_lt s
 obtain ⟨r, hr⟩ : ∃ r, r = gaR s := ⟨_, rfl⟩
 rw [← hr]
 unfold gaR at hr
 obtain ⟨R, hR⟩ : ∃ R, R = getR s := ⟨_, rfl⟩
 rw [← hR] at P hgl hr
 obtain ⟨n, s1, e1⟩ := R
 simp only at P hgl hr
 clear hR
 by_cases h0 : e1 = 0
 ·subst h0
  rw [if_pos rfl] at hr
  by_cases hn : n ≤ 1000
  ·rw [if_pos hn] at hr
   have HR := PLift.up hr
   clear hr
   go_enter Try.func52, Try.ntmps52
   go_wp2_with fail
   refine P.down.mono ?_
   rintro e w1 ⟨rfl, hb1⟩
   have B1 := PLift.up hb1
   clear hb1 P
   go_wp2_with fail
   go_loopw [5, 7] (fun sv v wr => ∃ (k : Nat) (t : ByteArray) (out : List Int) (a : Option Addr) (c : Nat), k ≤ n ∧ v = .slice a k c ∧ sv = .string t ∧ t.size ≤ 140737488351232 ∧ Hid (gaF (n - k) t out = gaF n s1 [] ∧ wr.ownsRow w.heap.size 3 1 (.slice a k c) k (out.flatMap ei64) ∧ Below w.heap.size w wr)) (fun _ v _ => n - slLen v)
   case atStart => exact ⟨0, s1, [], none, 0, by omega, rfl, rfl, by omega, rfl, ⟨by simp, .inl ⟨rfl, rfl⟩⟩, B1.down⟩
   case round =>
    obtain ⟨k, t, out, a, c, hk, rfl, rfl, ht, hI⟩ := hrel
    have hB := hI.out.2.2.size
    by_cases hlt : k < n
    ·have Q := PLift.up (unpacked_any t wr ht)
     have hql := getR_lt t
     have hst : gaF (n - k) t out = if (getR t).2.2 = 0 then gaF (n - (k + 1)) (getR t).2.1 (out ++ [unfN (getR t).1]) else ([], (getR t).2.2) := by
      rw [show n - k = (n - (k + 1)) + 1 from by omega]; rfl
     obtain ⟨R2, hR2⟩ : ∃ R, R = getR t := ⟨_, rfl⟩
     rw [← hR2] at Q hql hst
     obtain ⟨x, t', e2⟩ := R2
     simp only at Q hql hst
     clear hR2
     have HI := PLift.up hI.out
     clear hI
     by_cases h2 : e2 = 0
     ·subst h2
      rw [if_pos rfl] at hst
      have HST := PLift.up hst
      clear hst
      go_wp2_with fail
      refine Q.down.mono ?_
      rintro e w2 ⟨rfl, hb2⟩
      have HO2 := PLift.up (own_below HI.down.2.1 hb2)
      have B2 := PLift.up (HI.down.2.2.trans (hb2.mono hB))
      have hB2 := B2.down.size
      clear hb2 Q
      go_wp2_with fail
      refine (unfolded_any x hql.1 _).mono ?_
      rintro e w2 ⟨rfl, rfl⟩
      generalize hu : unfN x = u
      have HU := PLift.up hu
      clear hu
      go_wp2_with (at_builtin; refine wpApp _ rfl _ _ _ rfl w.heap.size _ _ _ elT_i64 _ k (out.flatMap ei64) rfl (HO2.down.alloc _) (some ⟨w2.heap.size, 0, none⟩) 1 1 [.int .i64 u] rfl ?_ ?_ ?_ ?_ ?_ ?_ ?_ ?_)
      ·rfl
      ·simp
      ·intro ad had j y hy
       obtain rfl := Option.some.inj had
       match j, hy with
       | 0, hy => simp at hy; subst hy; simp [Addr.add_lit, go_sem]
       | j + 1, hy => simp at hy
      ·simp [Value.oneCell']
      ·simp only [maxLen]; omega
      ·omega
      ·simp; omega
      ·intro v' w3 hown hg _
       have hbb : Below w.heap.size w w3 := (B2.down.alloc (by omega) _).grown hg (by simp; omega) (fun q hq => (HO2.down.lt q hq).1)
       obtain ⟨a', c', rfl⟩ := own_slice hown
       have HO := PLift.up hown
       have HBB := PLift.up hbb
       clear hown hbb hg
       go_wp2_with fail
       go_roundw
       case rel =>
        refine ⟨k + 1, t', out ++ [unfN x], a', c', by omega, rfl, rfl, by omega, ?_, ?_, HBB.down⟩
        ·rw [← HST.down]; exact HI.down.1
        ·rw [List.flatMap_append, HU.down]; exact HO.down
       case measure => simp [slLen]; omega
     ·rw [if_neg h2] at hst
      have hr2 := (hst.symm.trans HI.down.1).trans HR.down.symm
      have z1 : (e2 != 0) = true := by simpa using h2
      have z2 : (e2 == 0) = false := by simpa using h2
      subst hr2
      have B1W := PLift.up HI.down.2.2
      clear hst HR HI h2
      go_wp2_with fail
      refine Q.down.mono ?_
      rintro e w2 ⟨rfl, hb2⟩
      have HI2 := PLift.up (B1W.down.trans (hb2.mono hB))
      clear hb2 Q
      go_wp2_with fail
      go_returns
      exact ⟨⟨_, rfl, 0, ⟨by simp, .inl ⟨rfl, rfl⟩⟩⟩, HI2.down⟩
    ·obtain rfl : k = n := by omega
     have hz := hI.out.1
     rw [Nat.sub_self] at hz
     have hz2 : gaF 0 t out = if t = ⟨#[]⟩ then (out, 0) else ([], 4) := rfl
     rw [hz2] at hz
     have HI := PLift.up hI.out
     clear hI hz2
     by_cases ht0 : t = ⟨#[]⟩
     ·rw [if_pos ht0] at hz
      have hr2 := hz.trans HR.down.symm
      subst hr2 ht0
      clear HR
      go_wp2_with fail
      go_returns
      exact ⟨⟨_, rfl, _, HI.down.2.1⟩, HI.down.2.2⟩
     ·rw [if_neg ht0] at hz
      have hr2 := hz.trans HR.down.symm
      subst hr2
      clear HR
      have hte : t.toList.isEmpty = false := by
       cases h : t.toList with
       | nil => exact absurd ((str_empty t).2 h) ht0
       | cons x l => rfl
      have hte2 : ¬ t.toList = [] := fun h => ht0 ((str_empty t).2 h)
      clear ht0
      go_wp2_with fail
      go_returns
      exact ⟨⟨_, rfl, 0, ⟨by simp, .inl ⟨rfl, rfl⟩⟩⟩, HI.down.2.2⟩
  ·rw [if_neg hn] at hr
   subst hr
   go_enter Try.func52, Try.ntmps52
   go_wp2_with fail
   refine P.down.mono ?_
   rintro e w1 ⟨rfl, hb1⟩
   have B1 := PLift.up hb1
   clear hb1 P
   go_wp2_with fail
   go_returns
   exact ⟨⟨_, rfl, 0, ⟨by simp, .inl ⟨rfl, rfl⟩⟩⟩, B1.down⟩
 ·rw [if_neg h0] at hr
  have z1 : (e1 != 0) = true := by simpa using h0
  have z2 : (e1 == 0) = false := by simpa using h0
  subst hr
  clear h0
  go_enter Try.func52, Try.ntmps52
  go_wp2_with fail
  refine P.down.mono ?_
  rintro e w1 ⟨rfl, hb1⟩
  have B1 := PLift.up hb1
  clear hb1 P
  go_wp2_with fail
  go_returns
  exact ⟨⟨_, rfl, 0, ⟨by simp, .inl ⟨rfl, rfl⟩⟩⟩, B1.down⟩
end Go.Proofs.Ytdkmndimmpilaaa
namespace Go.Proofs.Ytdkmndimmpilaaa
set_option linter.all false
open Go.RowKit
theorem RelL.setAt {U F : Nat → Prop} {β : Nat → Option Bind} {w : World} {y : AV} : ∀ {cs : List AV} {us : List Value} (j : Nat), RelL U w F β cs us → (∀ u, us[j]? = some u → RelA U w F β y u) → RelL U w F β (cs.set j y) us
 | [], us, j, h, _ => by simpa using h
 | x :: r, us, j, h, hy => by
  simp only [RelL] at h
  obtain ⟨u, us', rfl, h1, h2⟩ := h
  cases j with
  | zero => simp only [List.set_cons_zero, RelL]; exact ⟨u, us', rfl, hy u rfl, h2⟩
  | succ j => simp only [List.set_cons_succ, RelL]; exact ⟨u, us', rfl, h1, RelL.setAt j h2 (fun v hv => hy v (by simpa using hv))⟩
theorem To.nilC {k : Nat} {s : St} (id j e sz tt : Nat) (cs : List AV) (hc : lookC s.h id = .blk tt cs) (hj : cs[j]? = some (.c (.v (.slice none 0 0)))) : ToK k s ⟨s.t, (s.n, .row e sz []) :: (id, .blk tt (cs.set j (.own s.n))) :: s.h, s.n + 1⟩ := by
 intro H F β a w hk C
 obtain ⟨bd0, hb1, hb2⟩ := C.m.ch id (by rw [hc]; simp)
 have hidn : id ≠ s.n := fun h => absurd (C.m.used _ _ hb1) (by rw [h]; exact Nat.lt_irrefl _)
 obtain ⟨M, E⟩ := C.m.step (w' := w) (h' := lookC ((s.n, .row e sz []) :: (id, .blk tt (cs.set j (.own s.n))) :: s.h)) (β' := updB β s.n (some ⟨.slice none 0 0, none, 0, sz, []⟩)) (F' := F) (U' := (· < s.n + 1)) (fun i => i = s.n ∨ i = id)
  (fun i hi => by simp only [not_or] at hi; simp [updB, Ne.symm hi.1]) (fun i hi => by simp only [not_or] at hi; simp [lookC, Ne.symm hi.1, Ne.symm hi.2]) rfl rfl rfl (Nat.le_refl _) (fun _ _ _ => rfl) (fun i hi => Nat.lt_succ_of_lt hi) (fun b hb => hb)
  (fun b hb => ⟨C.m.fin b hb, .inl hb⟩)
  (fun i bd' hi hu hb => by
   rcases hi with rfl | rfl
   ·exact absurd hu (Nat.lt_irrefl _)
   ·exact ⟨_, by simpa [updB, Ne.symm hidn] using hb⟩)
  (fun i bd' hi hb => by
   rcases hi with rfl | rfl
   ·simp only [updB, if_true, Option.some.injEq] at hb
    subst hb
    exact ⟨Nat.lt_succ_self _, fun b hb => by have := Bind.has_nil hb; simp at this⟩
   ·have hb' : β i = some bd' := by simpa [updB, Ne.symm hidn] using hb
    refine ⟨Nat.lt_succ_of_lt (C.m.used _ _ hb'), fun b hbb => ?_⟩
    obtain ⟨p1, p2, p3⟩ := C.m.off _ _ _ hb' hbb
    exact ⟨p2, p1, .inr ⟨i, bd', .inr rfl, hb', hbb⟩⟩)
  (fun i j' bi bj b hi hj' hbi hbj h1 h2 => by
   rcases hi with rfl | rfl <;> rcases hj' with rfl | rfl
   ·rfl
   ·simp only [updB, if_true, Option.some.injEq] at hbi; subst hbi; have := Bind.has_nil h1; simp at this
   ·simp only [updB, if_true, Option.some.injEq] at hbj; subst hbj; have := Bind.has_nil h2; simp at this
   ·rfl)
  (fun E i hi _ => by
   rcases hi with rfl | rfl
   ·refine ⟨⟨.slice none 0 0, none, 0, sz, []⟩, by simp [updB], ?_⟩
    simp only [lookC, if_true, ChOk]
    simp
   ·refine ⟨bd0, by simpa [updB, Ne.symm hidn] using hb1, ?_⟩
    have hb2' := ChOk.mono E (fun g _ => rfl) hb2
    rw [hc] at hb2'
    simp only [lookC, if_true, Ne.symm hidn, if_false]
    obtain ⟨q1, q2, g, vs, q3, q4, q5, q6, q7⟩ := hb2'
    refine ⟨by rw [List.length_set]; exact q1, q2, g, vs, q3, q4, q5, RelL.setAt j q6 (fun u hu => ?_), q7⟩
    obtain ⟨u', hu', hr⟩ := q6.at j _ hj
    rw [hu] at hu'; cases hu'
    rw [relC] at hr
    simp only [RelA]
    rw [hr.1]
    refine ⟨Nat.lt_succ_self _, rfl, fun bd hb => ?_⟩
    simp only [updB, if_true, Option.some.injEq] at hb
    subst hb; rfl)
 refine ⟨F, updB β s.n (some ⟨.slice none 0 0, none, 0, sz, []⟩), fun t' => RelA.mono E _ _ (C.t t'), M, C.nt, C.d, C.f, C.g, fun i bd' hi hb => ?_, Nat.le_succ_of_le C.k⟩
 refine C.e i bd' hi ?_
 have : s.n ≠ i := by have := C.k; omega
 simpa [updB, this] using hb
end Go.Proofs.Ytdkmndimmpilaaa
namespace Go.Proofs.Ytdkmndimmpilaaa
set_option linter.all false
open Go.RowKit
set_option maxRecDepth 100000
set_option maxHeartbeats 1000000
theorem leaf_s (s : ByteArray) (hs : s.size ≤ 140737488351232) : Spec Try.prog 87 [S s] [] (.c (.v (.int .u64 (leafN s : Nat)))) [] :=
 spec_scal (enters Try.func87 rfl rfl) [.string s] _ rfl fun w => (leaf_any s w hs).mono fun e w' ⟨h1, h2⟩ => ⟨h1, h2 ▸ Below.refl _ _⟩
theorem pair_s (a b : Nat) (ha : a < 18446744073709551616) (hb : b < 18446744073709551616) : Spec Try.prog 100 [.c (.v (.int .u64 a)), .c (.v (.int .u64 b))] [] (.c (.v (.int .u64 (pairN a b : Nat)))) [] :=
 spec_scal (enters Try.func100 rfl rfl) [.int .u64 a, .int .u64 b] _ rfl fun w => (pair_any a b ha hb w).mono fun e w' ⟨h1, h2⟩ => ⟨h1, h2 ▸ Below.refl _ _⟩
theorem split_s (n : Nat) (h2 : 2 ≤ n) (h : n ≤ 256) : Spec Try.prog 99 [I .i64 n] [] (I .i64 (2 ^ sp n : Nat)) [] :=
 spec_scal (enters Try.func99 rfl rfl) [.int .i64 n] _ rfl fun w => (split_any n h2 h w).mono fun e w' ⟨h1, h2⟩ => ⟨h1, h2 ▸ Below.refl _ _⟩
theorem climb_s : ∀ (f m i n : Nat) (t : List Nat), n ≤ f → 1 ≤ n → n ≤ 256 → i < n → m < 18446744073709551616 → (∀ x ∈ t, x < 18446744073709551616) → t.length ≤ 9223372036854775807 →
 ∃ r : Nat × Bool, r.1 < 18446744073709551616 ∧ cl pairN m i n t = (if r.2 then some r.1 else none) ∧ Spec Try.prog 86 [.c (.v (.int .u64 m)), I .i64 i, I .i64 n, .c (.sl 1 (t.map u64P))] [] (.tup [.c (.v (.int .u64 r.1)), B r.2]) []
 | 0, m, i, n, t, hf, h1, _, _, _, _, _ => by omega
 | f + 1, m, i, n, t, hf, hn1, h256, hi, hm, ht, hl => by
  by_cases h1 : n ≤ 1
  ·obtain rfl : n = 1 := by omega
   refine ⟨(m, decide (t = [])), hm, by rw [cl_one _ _ _ _ _ (Nat.le_refl _)]; by_cases e : t = [] <;> simp [e], ?_⟩
   have et : decide ((t.length : Int) = 0) = decide (t = []) := by rw [Bool.eq_iff_iff]; cases t with | nil => simp | cons a r => simp; omega
   refine spec_am Try.func86 rfl rfl mix 70 rfl [.tmp 8, .tmp 9] Try.results86 (Nat.le_of_ble_eq_true rfl) ?_
   (iterate 2 ((try simp (etaStruct := .none) only [push_cast, DrawG, Int.cast_ofNat_Int, seval, et]); (try (refine xsu ?_; try exact xtI))))
   refine cond_i (fun h1 => ?_) (fun h1 => ?_)
   ·(try replace h1 := xhh h1)
    (iterate 2 ((try simp (etaStruct := .none) only [push_cast, DrawG, Int.cast_ofNat_Int, seval, et]); (try (refine xsu ?_; try exact xtI))))
    exact xrz rfl
   ·(try replace h1 := xhh h1)
    simp at h1
  ·obtain ⟨s1, s2, s3, s4⟩ := sp_any n (by omega) h256
   obtain ⟨q, hq⟩ : ∃ q, q = 2 ^ sp n := ⟨_, rfl⟩
   have SP := split_s n (by omega) h256
   have CH := cl_halves pairN (sp n) m i n t s3 s4 hi
   rw [← hq] at SP CH s3 s4
   clear hq
   have tl : t = [] ∨ ∃ L x, t.length = L + 1 ∧ t.getLast? = some x ∧ t.dropLast = t.take L ∧ t.getD L default = x ∧ x < 18446744073709551616 := by
    rcases List.eq_nil_or_concat t with e | ⟨a, x, e⟩
    ·exact .inl e
    ·subst e
     exact .inr ⟨a.length, x, by simp, by simp, by simp, by simp [List.getD_eq_getElem?_getD], ht x (by simp)⟩
   rcases tl with rfl | ⟨L, x, l1, l2, l3, l4, l5⟩
   ·refine ⟨(0, false), by decide, by rw [CH]; rfl, ?_⟩
    refine spec_am Try.func86 rfl rfl mix 70 rfl [.tmp 8, .tmp 9] Try.results86 (Nat.le_of_ble_eq_true rfl) ?_
    (try (refine xst ?_; try exact xtI))
    refine cond_i (fun h1 => ?_) (fun h1 => ?_)
    ·(try replace h1 := xhh h1)
     omega
    ·(try replace h1 := xhh h1)
     (try (refine xst ?_; try exact xtI))
     refine cond_i (fun h2 => ?_) (fun h2 => ?_)
     ·(try replace h2 := xhh h2)
      (try (refine xst ?_; try exact xtI))
      exact xrz rfl
     ·(try replace h2 := xhh h2)
      simp at h2
   ·unfold clH at CH
    rw [l2] at CH
    simp only at CH
    rw [l3] at CH
    have hlt : L < t.length := by omega
    have ht2 : ∀ y ∈ t.take L, y < 18446744073709551616 := fun y hy => ht y (List.mem_of_mem_take hy)
    by_cases hiq : i < q
    ·obtain ⟨⟨y, ok⟩, r1, r2, r3⟩ := climb_s f m i q (t.take L) (by omega) (by omega) (by omega) hiq hm ht2 (by simp; omega)
     rw [if_pos hiq, r2] at CH
     refine ⟨(pairN y x, ok), pairN_lt _ _, by rw [CH]; cases ok <;> rfl, ?_⟩
     have P := pair_s y x r1 l5
     refine spec_am Try.func86 rfl rfl mix 70 rfl [.tmp 8, .tmp 9] Try.results86 (Nat.le_of_ble_eq_true rfl) ?_
     (iterate 2 ((try simp (etaStruct := .none) only [push_cast, DrawG, Int.cast_ofNat_Int, seval, l1, ← List.map_take, getD_in _ _ _ hlt, u64P, l4, Int.add_sub_cancel]); (try (refine xsu ?_; try exact xtI))))
     refine cond_i (fun h1 => ?_) (fun h1 => ?_)
     ·(try replace h1 := xhh h1)
      omega
     ·(try replace h1 := xhh h1)
      (iterate 2 ((try simp (etaStruct := .none) only [push_cast, DrawG, Int.cast_ofNat_Int, seval, l1, ← List.map_take, getD_in _ _ _ hlt, u64P, l4, Int.add_sub_cancel]); (try (refine xsu ?_; try exact xtI))))
      refine cond_i (fun h2 => ?_) (fun h2 => ?_)
      ·(try replace h2 := xhh h2)
       omega
      ·(try replace h2 := xhh h2)
       (iterate 2 ((try simp (etaStruct := .none) only [push_cast, DrawG, Int.cast_ofNat_Int, seval, l1, ← List.map_take, getD_in _ _ _ hlt, u64P, l4, Int.add_sub_cancel]); (try (refine xsu ?_; try exact xtI))))
       refine caP (SP) ?_
       (iterate 2 ((try simp (etaStruct := .none) only [push_cast, DrawG, Int.cast_ofNat_Int, seval, l1, ← List.map_take, getD_in _ _ _ hlt, u64P, l4, Int.add_sub_cancel]); (try (refine xsu ?_; try exact xtI))))
       refine cond_i (fun h3 => ?_) (fun h3 => ?_)
       ·(try replace h3 := xhh h3)
        (iterate 2 ((try simp (etaStruct := .none) only [push_cast, DrawG, Int.cast_ofNat_Int, seval, l1, ← List.map_take, getD_in _ _ _ hlt, u64P, l4, Int.add_sub_cancel]); (try (refine xsu ?_; try exact xtI))))
        refine caP (r3) ?_
        (iterate 2 ((try simp (etaStruct := .none) only [push_cast, DrawG, Int.cast_ofNat_Int, seval, l1, ← List.map_take, getD_in _ _ _ hlt, u64P, l4, Int.add_sub_cancel]); (try (refine xsu ?_; try exact xtI))))
        refine caP (P) ?_
        (iterate 2 ((try simp (etaStruct := .none) only [push_cast, DrawG, Int.cast_ofNat_Int, seval, l1, ← List.map_take, getD_in _ _ _ hlt, u64P, l4, Int.add_sub_cancel]); (try (refine xsu ?_; try exact xtI))))
        exact xrz rfl
       ·(try replace h3 := xhh h3)
        omega
    ·obtain ⟨⟨y, ok⟩, r1, r2, r3⟩ := climb_s f m (i - q) (n - q) (t.take L) (by omega) (by omega) (by omega) (by omega) hm ht2 (by simp; omega)
     rw [if_neg hiq, r2] at CH
     refine ⟨(pairN x y, ok), pairN_lt _ _, by rw [CH]; cases ok <;> rfl, ?_⟩
     have P := pair_s x y l5 r1
     have e1 : (i : Int) - (q : Int) = ((i - q : Nat) : Int) := by omega
     have e2 : (n : Int) - (q : Int) = ((n - q : Nat) : Int) := by omega
     refine spec_am Try.func86 rfl rfl mix 70 rfl [.tmp 8, .tmp 9] Try.results86 (Nat.le_of_ble_eq_true rfl) ?_
     (iterate 2 ((try simp (etaStruct := .none) only [push_cast, DrawG, Int.cast_ofNat_Int, seval, l1, ← List.map_take, getD_in _ _ _ hlt, u64P, l4, Int.add_sub_cancel, e1, e2]); (try (refine xsu ?_; try exact xtI))))
     refine cond_i (fun h1 => ?_) (fun h1 => ?_)
     ·(try replace h1 := xhh h1)
      omega
     ·(try replace h1 := xhh h1)
      (iterate 2 ((try simp (etaStruct := .none) only [push_cast, DrawG, Int.cast_ofNat_Int, seval, l1, ← List.map_take, getD_in _ _ _ hlt, u64P, l4, Int.add_sub_cancel, e1, e2]); (try (refine xsu ?_; try exact xtI))))
      refine cond_i (fun h2 => ?_) (fun h2 => ?_)
      ·(try replace h2 := xhh h2)
       omega
      ·(try replace h2 := xhh h2)
       (iterate 2 ((try simp (etaStruct := .none) only [push_cast, DrawG, Int.cast_ofNat_Int, seval, l1, ← List.map_take, getD_in _ _ _ hlt, u64P, l4, Int.add_sub_cancel, e1, e2]); (try (refine xsu ?_; try exact xtI))))
       refine caP (SP) ?_
       (iterate 2 ((try simp (etaStruct := .none) only [push_cast, DrawG, Int.cast_ofNat_Int, seval, l1, ← List.map_take, getD_in _ _ _ hlt, u64P, l4, Int.add_sub_cancel, e1, e2]); (try (refine xsu ?_; try exact xtI))))
       refine cond_i (fun h3 => ?_) (fun h3 => ?_)
       ·(try replace h3 := xhh h3)
        omega
       ·(try replace h3 := xhh h3)
        (iterate 2 ((try simp (etaStruct := .none) only [push_cast, DrawG, Int.cast_ofNat_Int, seval, l1, ← List.map_take, getD_in _ _ _ hlt, u64P, l4, Int.add_sub_cancel, e1, e2]); (try (refine xsu ?_; try exact xtI))))
        refine caP (r3) ?_
        (iterate 2 ((try simp (etaStruct := .none) only [push_cast, DrawG, Int.cast_ofNat_Int, seval, l1, ← List.map_take, getD_in _ _ _ hlt, u64P, l4, Int.add_sub_cancel, e1, e2]); (try (refine xsu ?_; try exact xtI))))
        refine caP (P) ?_
        (iterate 2 ((try simp (etaStruct := .none) only [push_cast, DrawG, Int.cast_ofNat_Int, seval, l1, ← List.map_take, getD_in _ _ _ hlt, u64P, l4, Int.add_sub_cancel, e1, e2]); (try (refine xsu ?_; try exact xtI))))
        exact xrz rfl
def holdsV (root : Nat) (s : ByteArray) (i n : Int) (t : List Nat) : Bool × Int := if n < 1 ∨ 256 < n ∨ i < 0 ∨ n ≤ i then (false, 1) else (decide (cl pairN (leafN s) i.toNat n.toNat t = some root), 0)
theorem Holds_s (root : Nat) (s : ByteArray) (i n : Int) (t : List Nat) (hs : s.size ≤ 140737488351232) (ht : ∀ x ∈ t, x < 18446744073709551616) (hl : t.length ≤ 9223372036854775807) :
 Spec Try.prog 56 [.c (.v (.int .u64 root)), S s, I .i64 i, I .i64 n, .c (.sl 1 (t.map u64P))] [] (.tup [B (holdsV root s i n t).1, I .i64 (holdsV root s i n t).2]) [] := by
 by_cases hb : n < 1 ∨ 256 < n ∨ i < 0 ∨ n ≤ i
 ·have e : holdsV root s i n t = (false, 1) := by unfold holdsV; rw [if_pos hb]
  refine spec_am Try.func56 rfl rfl mix 44 rfl [.tmp 10, .tmp 11] Try.results56 (Nat.le_of_ble_eq_true rfl) ?_
  (try (refine xst ?_; try exact xtI))
  refine cond_i (fun h1 => ?_) (fun h1 => ?_)
  ·(try replace h1 := xhh h1)
   (try (refine xst ?_; try exact xtI))
   (first | (refine retA rfl (Wk.of ?_); (try simp (etaStruct := .none) only [push_cast, DrawG, Int.cast_ofNat_Int, seval]); first | done | (simp [e, *]; done) | (simp_all [e]; done)) | (refine retA rfl ?_; (try simp (etaStruct := .none) only [push_cast, DrawG, Int.cast_ofNat_Int, seval]); (try simp [e, *]); (try exact wkc)))
  ·(try replace h1 := xhh h1)
   omega
 ·obtain ⟨i, rfl⟩ := Int.eq_ofNat_of_zero_le (show 0 ≤ i by omega)
  obtain ⟨n, rfl⟩ := Int.eq_ofNat_of_zero_le (show 0 ≤ n by omega)
  obtain ⟨⟨y, ok⟩, r1, r2, r3⟩ := climb_s n (leafN s) i n t (Nat.le_refl _) (by omega) (by omega) (by omega) (leafN_lt s) ht hl
  have e : holdsV root s i n t = (ok && decide ((y : Int) = root), 0) := by
   unfold holdsV
   rw [if_neg hb, Int.toNat_natCast, Int.toNat_natCast, r2]
   congr 1
   cases ok
   ·simp
   ·rw [Bool.eq_iff_iff]; simp; omega
  refine spec_am Try.func56 rfl rfl mix 44 rfl [.tmp 10, .tmp 11] Try.results56 (Nat.le_of_ble_eq_true rfl) ?_
  (try (refine xst ?_; try exact xtI))
  refine cond_i (fun h1 => ?_) (fun h1 => ?_)
  ·(try replace h1 := xhh h1)
   omega
  ·(try replace h1 := xhh h1)
   (try (refine xst ?_; try exact xtI))
   refine caP (leaf_s s hs) ?_
   (try (refine xst ?_; try exact xtI))
   refine caP (r3) ?_
   (try (refine xst ?_; try exact xtI))
   (first | (refine retA rfl (Wk.of ?_); (try simp (etaStruct := .none) only [push_cast, DrawG, Int.cast_ofNat_Int, seval]); first | done | (simp [e, *]; done) | (simp_all [e]; done)) | (refine retA rfl ?_; (try simp (etaStruct := .none) only [push_cast, DrawG, Int.cast_ofNat_Int, seval]); (try simp [e, *]); (try exact wkc)))
end Go.Proofs.Ytdkmndimmpilaaa
namespace Go.Proofs.Ytdkmndimmpilaaa
set_option linter.all false
open Go.RowKit
theorem spec_any {P : Program} {f : FuncId} (hf : Enters P f) (args : List AV) (r : AV) (v : Value) (hr : ∀ (U : Nat → Prop) (w : World) (F : Nat → Prop) (β : Nat → Option Bind), RelA U w F β r v)
 (h : ∀ (w : World) (F : Nat → Prop) (β : Nat → Option Bind) (vs : List Value), (∀ b, F b → b < w.heap.size) → RelL (· < 0) w F β args vs → Calls P f vs.toArray w fun e w' => e = .returned v ∧ Below w.heap.size w w') : Spec P f args [] r [] := by
 refine ⟨hf, Nat.le_refl _, fun w F β vs M hv => ?_⟩
 refine (h w F β vs M.fin hv).mono ?_
 rintro e w' ⟨rfl, hb⟩
 obtain ⟨S1, S2⟩ := M.step (w' := w') (h' := nth []) (β' := β) (F' := F) (U' := (· < 0)) (fun _ => False) (fun _ _ => rfl) (fun _ _ => rfl) hb.os hb.tape hb.output hb.size (fun b h _ => hb.block b h) (fun _ h => h) (fun _ h => h)
  (fun b h => ⟨Nat.lt_of_lt_of_le (M.fin b h) hb.size, .inl h⟩) (fun _ _ h => h.elim) (fun _ _ h => h.elim) (fun _ _ _ _ _ h => h.elim) (fun _ _ h => h.elim)
 exact ⟨v, F, β, rfl, S1, hr _ _ _ _, fun _ h => h, fun _ h => .inl h, fun _ _ _ h => ⟨_, h⟩⟩
theorem relL_one {w : World} {U F : Nat → Prop} {β : Nat → Option Bind} {p : PV} {vs : List Value} (h : RelL U w F β [.c p] vs) : ∃ u, vs = [u] ∧ RelP w F p u := by
 simp only [RelL, RelA] at h
 obtain ⟨u, us, rfl, h1, rfl⟩ := h
 exact ⟨u, rfl, h1⟩
end Go.Proofs.Ytdkmndimmpilaaa
namespace Go.Proofs.Ytdkmndimmpilaaa
set_option linter.all false
open Go.RowKit
set_option maxRecDepth 100000
set_option maxHeartbeats 1000000
theorem rel_strInt' {s : ByteArray} {n : Int} {U : Nat → Prop} {w : World} {F : Nat → Prop} {β : Nat → Option Bind} : RelA U w F β (.tup [S s, I .i64 n]) (.tuple #[.string s, .int .i64 n]) := by
 simp only [RelA]
 refine ⟨_, rfl, ?_⟩
 simp [RelL, RelA, RelP, Value.oneCell']
theorem relL_v {w : World} {U F : Nat → Prop} {β : Nat → Option Bind} {x : Value} {vs : List Value} (h : RelL U w F β [.c (.v x)] vs) : vs = [x] := by
 obtain ⟨u, rfl, hu⟩ := relL_one h
 simp only [RelP] at hu
 rw [hu.1]
theorem flat_ei64 : ∀ xs : List Int, xs.flatMap ei64 = xs.map (Value.int .i64)
 | [] => rfl
 | a :: r => by simp [ei64, flat_ei64 r]
theorem spec_row {P : Program} {f : FuncId} (hf : Enters P f) (x : Value) (xs : List Int) (e : Int) (T : TypeId) (h : ∀ w : World, Calls P f #[x] w fun en w' => (∃ v, en = .returned (.tuple #[v, .int .i64 e]) ∧ ∃ n, w'.ownsRow w.heap.size T 1 v n (xs.flatMap ei64)) ∧ Below w.heap.size w w') : Spec P f [.c (.v x)] [] (.tup [.c (.sl 1 (xs.map i64P)), I .i64 e]) [] := by
 refine ⟨hf, Nat.le_refl _, fun w F β vs M hv => ?_⟩
 obtain rfl := relL_v hv
 refine (h w).mono ?_
 rintro en w' ⟨⟨v, rfl, n, hlen, hrow⟩, hb⟩
 have hn : n = xs.length := by
  rw [flat_ei64, List.length_map] at hlen
  omega
 subst hn
 have go : ∀ G : Nat → Prop, (∀ b, G b → w.heap.size ≤ b ∧ b < w'.heap.size) → RelP w' (fun b => F b ∨ G b) (.sl 1 (xs.map i64P)) v → ∃ v_1 F' β', Ending.returned (.tuple #[v, .int .i64 e]) = .returned v_1 ∧ MemOk w (inB β) (· < ([] : List Chunk).length) F' β' (nth []) w' ∧ RelA (· < ([] : List Chunk).length) w' F' β' (.tup [.c (.sl 1 (xs.map i64P)), I .i64 e]) v_1 ∧ (∀ b, F b → F' b) ∧ (∀ b, F' b → F b ∨ w.heap.size ≤ b ∨ inB β b) ∧ ∀ i bd, i < ([] : List Chunk).length → β' i = some bd → ∃ bs, β i = some ⟨bd.v, bd.b, bd.n, bd.sz, bs⟩ := by
  intro G hG hr
  obtain ⟨S1, S2⟩ := M.step (w' := w') (h' := nth []) (β' := β) (F' := fun b => F b ∨ G b) (U' := (· < 0)) (fun _ => False) (fun _ _ => rfl) (fun _ _ => rfl) hb.os hb.tape hb.output hb.size (fun b h _ => hb.block b h) (fun _ h => h) (fun _ h => .inl h)
   (fun b h => by
    rcases h with h | h
    ·exact ⟨Nat.lt_of_lt_of_le (M.fin b h) hb.size, .inl h⟩
    ·exact ⟨(hG b h).2, .inr (.inl (hG b h).1)⟩) (fun _ _ h => h.elim) (fun _ _ h => h.elim) (fun _ _ _ _ _ h => h.elim) (fun _ _ h => h.elim)
  refine ⟨_, fun b => F b ∨ G b, β, rfl, S1, ?_, fun _ h => .inl h, fun b h => ?_, fun _ _ _ h => ⟨_, h⟩⟩
  ·simp only [RelA]
   refine ⟨_, rfl, ?_⟩
   simp only [RelL, RelA]
   exact ⟨v, _, rfl, hr, _, _, rfl, by simp [RelP, Value.oneCell'], rfl⟩
  ·rcases h with h | h
   ·exact .inl h
   ·exact .inr (.inl (hG b h).1)
 rcases hrow with ⟨rfl, h0⟩ | ⟨g, cap, cur, rfl, h1, h2, h3, h4, h5, h6⟩
 ·refine go (fun _ => False) (fun _ h => h.elim) ?_
  obtain rfl : xs = [] := List.eq_nil_of_length_eq_zero h0
  simp only [RelP]
  exact ⟨none, 0, rfl, Nat.le_refl _, Nat.zero_le _, .inl rfl⟩
 ·refine go (fun b => b = g) (fun b hbg => by subst hbg; exact ⟨h1, (Array.getElem?_eq_some_iff.1 h2).1⟩) ?_
  simp only [RelP]
  refine ⟨some ⟨g, 0, none⟩, cap, by rw [List.length_map], by rwa [List.length_map], h4, .inr ⟨g, 0, rfl, .inr rfl, RelE.of fun i cs hi => ?_⟩⟩
  rw [List.getElem?_map] at hi
  cases hx : xs[i]? with
  | none => rw [hx] at hi; simp at hi
  | some z =>
   rw [hx] at hi
   have hi' : i64P z = cs := by simpa using hi
   subst hi'
   refine ⟨rfl, ?_⟩
   unfold i64P
   simp only [RelC, and_true, Nat.mul_one, Nat.zero_add, RelP]
   refine ⟨_, ?_, rfl, rfl⟩
   have hlt : i < xs.length := (List.getElem?_eq_some_iff.1 hx).1
   have e1 : (cur.toList.take (xs.length * 1))[i]? = some (.int .i64 z) := by
    rw [h6]
    rw [flat_ei64, List.getElem?_map, hx]; rfl
   rw [List.getElem?_take, if_pos (by omega)] at e1
   unfold World.cell?
   simp only [h2]
   simpa using e1
theorem copen_s (s : ByteArray) (hs : s.size ≤ 140737488351232) : Spec Try.prog 48 [S s] [] (.tup [S (openR s).1, I .i64 (openR s).2]) [] :=
 spec_any (enters Try.func48 (by kernel_rfl) rfl) _ _ (.tuple #[.string (openR s).1, .int .i64 (openR s).2]) (fun _ _ _ _ => rel_strInt') fun w F β vs hF hv => by
  obtain rfl := relL_v hv
  exact open_any s w hs
theorem ropened_s (s : ByteArray) (hs : s.size ≤ 140737488351232) : Spec Try.prog 51 [S s] [] (.tup [S (openR s).1, I .i64 (openR s).2]) [] :=
 spec_any (enters Try.func51 (by kernel_rfl) rfl) _ _ (.tuple #[.string (openR s).1, .int .i64 (openR s).2]) (fun _ _ _ _ => rel_strInt') fun w F β vs hF hv => by
  obtain rfl := relL_v hv
  exact opened_any s w hs
theorem getAll_s (s : ByteArray) (hs : s.size ≤ 140737488351232) : Spec Try.prog 49 [S s] [] (.tup [.c (.sl 1 ((gaR s).1.map i64P)), I .i64 (gaR s).2]) [] :=
 spec_row (enters Try.func49 (by kernel_rfl) rfl) _ _ _ 3 fun w => getAll_any s w hs
theorem runpacked_s (s : ByteArray) (hs : s.size ≤ 140737488351232) : Spec Try.prog 52 [S s] [] (.tup [.c (.sl 1 ((gaR s).1.map i64P)), I .i64 (gaR s).2]) [] :=
 spec_row (enters Try.func52 (by kernel_rfl) rfl) _ _ _ 3 fun w => unpackedAll_any s w hs
theorem openR_size (s : ByteArray) : (openR s).1.size ≤ s.size := by
 unfold openR
 split
 ·exact Nat.zero_le _
 ·split
  ·simp only [ByteArray.size_extract]; omega
  ·exact Nat.zero_le _
theorem gaF_len : ∀ (n : Nat) (s : ByteArray) (out : List Int), (gaF n s out).1.length ≤ out.length + n
 | 0, s, out => by unfold gaF; split <;> simp
 | n + 1, s, out => by
  unfold gaF
  split
  ·have := gaF_len n (getR s).2.1 (out ++ [unfN (getR s).1]); simp at this; omega
  ·simp
theorem gaR_len (s : ByteArray) : (gaR s).1.length ≤ 1000 := by
 unfold gaR
 split
 ·split
  ·rename_i h; have := gaF_len (getR s).1 (getR s).2.1 []; simp at this; omega
  ·simp
 ·simp
end Go.Proofs.Ytdkmndimmpilaaa
namespace Go.Proofs.Ytdkmndimmpilaaa
set_option linter.all false
open Go.RowKit
def nearB (c : Cel) : Bool := decide (-1000 ≤ c.x ∧ c.x ≤ 1000 ∧ -1000 ≤ c.y ∧ c.y ≤ 1000)
end Go.Proofs.Ytdkmndimmpilaaa
namespace Go.Proofs.Ytdkmndimmpilaaa
set_option linter.all false
open Go.RowKit
set_option maxRecDepth 100000
def within (n a b : Int) : Bool := decide (a ≤ n) && decide (n ≤ b)
theorem within_iff {n a b : Int} : within n a b = true ↔ a ≤ n ∧ n ≤ b := by unfold within; simp
theorem between_s (n a b : Int) : Spec Try.prog 12 [I .i64 n, I .i64 a, I .i64 b] [] (B (within n a b)) [] := by
 refine spec_am Try.func12 rfl rfl mix 15 rfl [.tmp 6] Try.results12 (Nat.le_of_ble_eq_true rfl) ?_
 (try (refine xst ?_; try exact xtI))
 exact ret0 rfl trivial (Wk.of (congrArg B (by unfold within; first | rfl | simp)))
end Go.Proofs.Ytdkmndimmpilaaa
namespace Go.Proofs.Ytdkmndimmpilaaa
set_option linter.all false
open Go.RowKit
set_option maxRecDepth 100000
set_option maxHeartbeats 2000000
theorem cellNear_s (c : Cel) : Spec Try.prog 55 [celA c] [] (B (nearB c)) [] := by
 refine spec_am Try.func55 rfl rfl mix 11 rfl [.tmp 2] Try.results55 (Nat.le_of_ble_eq_true rfl) ?_
 (try (refine xst ?_; try exact xtI))
 refine caP (between_s c.x (-1000) 1000) ?_
 (try (refine xst ?_; try exact xtI))
 refine gcP (fun hcc => between_s c.y (-1000) 1000) ?_
 (try (refine xst ?_; try exact xtI))
 exact ret0 rfl trivial (Wk.of (congrArg B (by unfold nearB within; rw [Bool.eq_iff_iff]; simp; omega)))
end Go.Proofs.Ytdkmndimmpilaaa
namespace Go.Proofs.Ytdkmndimmpilaaa
set_option linter.all false
open Go.RowKit
set_option maxRecDepth 100000
set_option maxHeartbeats 2000000
def ordBad (o : Ord) : Bool := !within o.by_ 0 7 || !within o.kind 1 5 || !within o.who 0 1000000 || !nearB o.c || !within o.what 0 1000000
def ordForm (o : Ord) : Bool := decide (o.kind = 5 ∧ o.who ≠ 0) || decide (o.kind ≠ 2 ∧ o.kind ≠ 3 ∧ ¬ (o.c.x = 0 ∧ o.c.y = 0)) || decide (o.kind ≠ 1 ∧ o.kind ≠ 5 ∧ o.what ≠ 0)
def ordE (o : Ord) : Int := if ordBad o then 1 else if ordForm o then 4 else 0
def firstE : List Ord → Int
 | [] => 0
 | o :: r => if ordE o ≠ 0 then ordE o else firstE r
theorem firstE_at : ∀ (l : List Ord) (k : Nat), k < l.length → firstE (l.drop k) = if ordE (l.getD k default) ≠ 0 then ordE (l.getD k default) else firstE (l.drop (k + 1)) := by
 intro l k hk
 rw [List.drop_eq_getElem_cons hk, getD_at _ _ hk]; rfl
theorem firstE_drop (l : List Ord) : ∀ k, k ≤ l.length → (∀ j, j < k → ordE (l.getD j default) = 0) → firstE l = firstE (l.drop k)
 | 0, _, _ => by simp
 | k + 1, hk, h => by
  rw [firstE_drop l k (by omega) fun j hj => h j (by omega), firstE_at l k (by omega), if_neg (fun h' => h' (h k (by omega)))]
def ordsE (l : List Ord) : Int := if 100 < l.length then 2 else firstE l
def bareV (o : Ord) : Ord := ⟨o.by_, o.kind, if o.kind = 5 then 0 else o.who, if o.kind ≠ 2 ∧ o.kind ≠ 3 then ⟨0, 0⟩ else o.c, if o.kind ≠ 1 ∧ o.kind ≠ 5 then 0 else o.what⟩
theorem ord_dec (a b : Ord) : (decide (a.by_ = b.by_) && (decide (a.kind = b.kind) && (decide (a.who = b.who) && (decide (a.c.x = b.c.x) && (decide (a.c.y = b.c.y) && decide (a.what = b.what)))))) = decide (a = b) := by
 rw [Bool.eq_iff_iff]; obtain ⟨_, _, _, ⟨_, _⟩, _⟩ := a; obtain ⟨_, _, _, ⟨_, _⟩, _⟩ := b; simp [and_assoc]
theorem bare_form (o : Ord) : decide (bareV o = o) = !ordForm o := by
 obtain ⟨b, k, w, ⟨x, y⟩, t⟩ := o
 unfold bareV ordForm
 rw [Bool.eq_iff_iff]
 simp only [decide_eq_true_eq, Bool.not_eq_true', Bool.or_eq_false_iff, decide_eq_false_iff_not, Ord.mk.injEq, true_and]
 constructor
 ·rintro ⟨h1, h2, h3⟩
  refine ⟨⟨fun h => ?_, fun h => ?_⟩, fun h => ?_⟩
  ·rw [if_pos h.1] at h1; omega
  ·rw [if_pos ⟨h.1, h.2.1⟩] at h2; simp at h2; omega
  ·rw [if_pos ⟨h.1, h.2.1⟩] at h3; omega
 ·rintro ⟨⟨h1, h2⟩, h3⟩
  refine ⟨?_, ?_, ?_⟩
  ·split <;> omega
  ·split
   ·simp; omega
   ·rfl
  ·split <;> omega
theorem near_within (c : Cel) : (!within c.x (-1000) 1000 || !within c.y (-1000) 1000) = !nearB c := by
 unfold within nearB
 rw [Bool.eq_iff_iff]; simp; omega
theorem owithin_s (n a b : Int) : Spec Try.prog 53 [I .i64 n, I .i64 a, I .i64 b] [] (B (within n a b)) [] := by
 refine spec_am Try.func53 rfl rfl mix 15 rfl [.tmp 6] Try.results53 (Nat.le_of_ble_eq_true rfl) ?_
 (try (refine xst ?_; try exact xtI))
 exact ret0 rfl trivial (Wk.of (congrArg B (by unfold within; first | rfl | simp)))
theorem bare_o (o : Ord) : Spec Try.prog 54 [ordA o] [] (ordA (bareV o)) [] := by
 refine spec_am Try.func54 rfl rfl mix 27 rfl [.cell 2 27] Try.results54 (Nat.le_of_ble_eq_true rfl) ?_
 (try (refine xst ?_; try exact xtI))
 refine cond_i (fun h1 => ?_) (fun h1 => ?_)
 ·(try replace h1 := xhh h1)
  (try (refine xst ?_; try exact xtI))
  refine cond_i (fun h2 => ?_) (fun h2 => ?_)
  ·(try replace h2 := xhh h2)
   (try (refine xst ?_; try exact xtI))
   refine cond_i (fun h3 => ?_) (fun h3 => ?_)
   ·(try replace h3 := xhh h3)
    (try (refine xst ?_; try exact xtI))
    (first | (refine retA rfl (Wk.of ?_); (try simp (etaStruct := .none) only [push_cast, DrawG, Int.cast_ofNat_Int, seval]); first | done | (simp [bareV, *]; done) | (simp_all [bareV]; done)) | (refine retA rfl ?_; (try simp (etaStruct := .none) only [push_cast, DrawG, Int.cast_ofNat_Int, seval]); (try simp [bareV, *]); (try exact wkc)))
   ·(try replace h3 := xhh h3)
    have e2 : ¬ (o.kind ≠ 1 ∧ o.kind ≠ 5) := by omega
    (try (refine xst ?_; try exact xtI))
    (first | (refine retA rfl (Wk.of ?_); (try simp (etaStruct := .none) only [push_cast, DrawG, Int.cast_ofNat_Int, seval]); first | done | (simp [bareV, *]; done) | (simp_all [bareV]; done)) | (refine retA rfl ?_; (try simp (etaStruct := .none) only [push_cast, DrawG, Int.cast_ofNat_Int, seval]); (try simp [bareV, *]); (try exact wkc)))
  ·(try replace h2 := xhh h2)
   have e1 : ¬ (o.kind ≠ 2 ∧ o.kind ≠ 3) := by omega
   (try (refine xst ?_; try exact xtI))
   refine cond_i (fun h4 => ?_) (fun h4 => ?_)
   ·(try replace h4 := xhh h4)
    (try (refine xst ?_; try exact xtI))
    (first | (refine retA rfl (Wk.of ?_); (try simp (etaStruct := .none) only [push_cast, DrawG, Int.cast_ofNat_Int, seval]); first | done | (simp [bareV, *]; done) | (simp_all [bareV]; done)) | (refine retA rfl ?_; (try simp (etaStruct := .none) only [push_cast, DrawG, Int.cast_ofNat_Int, seval]); (try simp [bareV, *]); (try exact wkc)))
   ·(try replace h4 := xhh h4)
    have e2 : ¬ (o.kind ≠ 1 ∧ o.kind ≠ 5) := by omega
    (try (refine xst ?_; try exact xtI))
    (first | (refine retA rfl (Wk.of ?_); (try simp (etaStruct := .none) only [push_cast, DrawG, Int.cast_ofNat_Int, seval]); first | done | (simp [bareV, *]; done) | (simp_all [bareV]; done)) | (refine retA rfl ?_; (try simp (etaStruct := .none) only [push_cast, DrawG, Int.cast_ofNat_Int, seval]); (try simp [bareV, *]); (try exact wkc)))
 ·(try replace h1 := xhh h1)
  (try (refine xst ?_; try exact xtI))
  refine cond_i (fun h5 => ?_) (fun h5 => ?_)
  ·(try replace h5 := xhh h5)
   (try (refine xst ?_; try exact xtI))
   refine cond_i (fun h6 => ?_) (fun h6 => ?_)
   ·(try replace h6 := xhh h6)
    (try (refine xst ?_; try exact xtI))
    (first | (refine retA rfl (Wk.of ?_); (try simp (etaStruct := .none) only [push_cast, DrawG, Int.cast_ofNat_Int, seval]); first | done | (simp [bareV, *]; done) | (simp_all [bareV]; done)) | (refine retA rfl ?_; (try simp (etaStruct := .none) only [push_cast, DrawG, Int.cast_ofNat_Int, seval]); (try simp [bareV, *]); (try exact wkc)))
   ·(try replace h6 := xhh h6)
    have e2 : o.kind = 1 := by omega
    (try (refine xst ?_; try exact xtI))
    (first | (refine retA rfl (Wk.of ?_); (try simp (etaStruct := .none) only [push_cast, DrawG, Int.cast_ofNat_Int, seval]); first | done | (simp [bareV, *]; done) | (simp_all [bareV]; done)) | (refine retA rfl ?_; (try simp (etaStruct := .none) only [push_cast, DrawG, Int.cast_ofNat_Int, seval]); (try simp [bareV, *]); (try exact wkc)))
  ·(try replace h5 := xhh h5)
   have e1 : ¬ (o.kind ≠ 2 ∧ o.kind ≠ 3) := by omega
   (try (refine xst ?_; try exact xtI))
   refine cond_i (fun h7 => ?_) (fun h7 => ?_)
   ·(try replace h7 := xhh h7)
    (try (refine xst ?_; try exact xtI))
    (first | (refine retA rfl (Wk.of ?_); (try simp (etaStruct := .none) only [push_cast, DrawG, Int.cast_ofNat_Int, seval]); first | done | (simp [bareV, *]; done) | (simp_all [bareV]; done)) | (refine retA rfl ?_; (try simp (etaStruct := .none) only [push_cast, DrawG, Int.cast_ofNat_Int, seval]); (try simp [bareV, *]); (try exact wkc)))
   ·(try replace h7 := xhh h7)
    have e2 : ¬ (o.kind ≠ 1 ∧ o.kind ≠ 5) := by omega
    (try (refine xst ?_; try exact xtI))
    (first | (refine retA rfl (Wk.of ?_); (try simp (etaStruct := .none) only [push_cast, DrawG, Int.cast_ofNat_Int, seval]); first | done | (simp [bareV, *]; done) | (simp_all [bareV]; done)) | (refine retA rfl ?_; (try simp (etaStruct := .none) only [push_cast, DrawG, Int.cast_ofNat_Int, seval]); (try simp [bareV, *]); (try exact wkc)))
theorem ocheck_s (o : Ord) : Spec Try.prog 21 [ordA o] [] (I .i64 (ordE o)) [] := by
 refine spec_am Try.func21 rfl rfl mix 43 rfl [.tmp 2] Try.results21 (Nat.le_of_ble_eq_true rfl) ?_
 (iterate 2 ((try simp (etaStruct := .none) only [push_cast, DrawG, Int.cast_ofNat_Int, seval, ord_dec (bareV o) o, bare_form o]); (try (refine xsu ?_; try exact xtI))))
 refine caP (owithin_s o.by_ 0 7) ?_
 (iterate 2 ((try simp (etaStruct := .none) only [push_cast, DrawG, Int.cast_ofNat_Int, seval, ord_dec (bareV o) o, bare_form o]); (try (refine xsu ?_; try exact xtI))))
 refine gcP (fun hcc => owithin_s o.kind 1 5) ?_
 (iterate 2 ((try simp (etaStruct := .none) only [push_cast, DrawG, Int.cast_ofNat_Int, seval, ord_dec (bareV o) o, bare_form o]); (try (refine xsu ?_; try exact xtI))))
 refine gcP (fun hcc => owithin_s o.who 0 1000000) ?_
 (iterate 2 ((try simp (etaStruct := .none) only [push_cast, DrawG, Int.cast_ofNat_Int, seval, ord_dec (bareV o) o, bare_form o]); (try (refine xsu ?_; try exact xtI))))
 refine gcP (fun hcc => owithin_s o.c.x (-1000) 1000) ?_
 (iterate 2 ((try simp (etaStruct := .none) only [push_cast, DrawG, Int.cast_ofNat_Int, seval, ord_dec (bareV o) o, bare_form o]); (try (refine xsu ?_; try exact xtI))))
 refine gcP (fun hcc => owithin_s o.c.y (-1000) 1000) ?_
 (iterate 2 ((try simp (etaStruct := .none) only [push_cast, DrawG, Int.cast_ofNat_Int, seval, ord_dec (bareV o) o, bare_form o]); (try (refine xsu ?_; try exact xtI))))
 refine gcP (fun hcc => owithin_s o.what 0 1000000) ?_
 (iterate 2 ((try simp (etaStruct := .none) only [push_cast, DrawG, Int.cast_ofNat_Int, seval, ord_dec (bareV o) o, bare_form o]); (try (refine xsu ?_; try exact xtI))))
 refine cond_i (fun h1 => ?_) (fun h1 => ?_)
 ·(try replace h1 := xhh h1)
  have hb : ordBad o = true := by unfold ordBad; rw [← near_within]; simpa [or_assoc] using h1
  (iterate 2 ((try simp (etaStruct := .none) only [push_cast, DrawG, Int.cast_ofNat_Int, seval, ord_dec (bareV o) o, bare_form o]); (try (refine xsu ?_; try exact xtI))))
  (first | (refine retA rfl (Wk.of ?_); (try simp (etaStruct := .none) only [push_cast, DrawG, Int.cast_ofNat_Int, seval]); first | done | (simp [ordE, hb, *]; done) | (simp_all [ordE, hb]; done)) | (refine retA rfl ?_; (try simp (etaStruct := .none) only [push_cast, DrawG, Int.cast_ofNat_Int, seval]); (try simp [ordE, hb, *]); (try exact wkc)))
 ·(try replace h1 := xhh h1)
  have hb : ordBad o = false := by unfold ordBad; rw [← near_within]; simpa [and_assoc] using h1
  (iterate 2 ((try simp (etaStruct := .none) only [push_cast, DrawG, Int.cast_ofNat_Int, seval, ord_dec (bareV o) o, bare_form o]); (try (refine xsu ?_; try exact xtI))))
  refine caP (bare_o o) ?_
  (iterate 2 ((try simp (etaStruct := .none) only [push_cast, DrawG, Int.cast_ofNat_Int, seval, ord_dec (bareV o) o, bare_form o]); (try (refine xsu ?_; try exact xtI))))
  (try (refine ⟨by kernel_rfl, ?_⟩))
  (iterate 2 ((try simp (etaStruct := .none) only [push_cast, DrawG, Int.cast_ofNat_Int, seval, ord_dec (bareV o) o, bare_form o]); (try (refine xsu ?_; try exact xtI))))
  refine cond_i (fun h2 => ?_) (fun h2 => ?_)
  ·(try replace h2 := xhh h2)
   (iterate 2 ((try simp (etaStruct := .none) only [push_cast, DrawG, Int.cast_ofNat_Int, seval, ord_dec (bareV o) o, bare_form o]); (try (refine xsu ?_; try exact xtI))))
   (first | (refine retA rfl (Wk.of ?_); (try simp (etaStruct := .none) only [push_cast, DrawG, Int.cast_ofNat_Int, seval]); first | done | (simp [ordE, hb, *]; done) | (simp_all [ordE, hb]; done)) | (refine retA rfl ?_; (try simp (etaStruct := .none) only [push_cast, DrawG, Int.cast_ofNat_Int, seval]); (try simp [ordE, hb, *]); (try exact wkc)))
  ·(try replace h2 := xhh h2)
   (iterate 2 ((try simp (etaStruct := .none) only [push_cast, DrawG, Int.cast_ofNat_Int, seval, ord_dec (bareV o) o, bare_form o]); (try (refine xsu ?_; try exact xtI))))
   (first | (refine retA rfl (Wk.of ?_); (try simp (etaStruct := .none) only [push_cast, DrawG, Int.cast_ofNat_Int, seval]); first | done | (simp [ordE, hb, *]; done) | (simp_all [ordE, hb]; done)) | (refine retA rfl ?_; (try simp (etaStruct := .none) only [push_cast, DrawG, Int.cast_ofNat_Int, seval]); (try simp [ordE, hb, *]); (try exact wkc)))
theorem oright_s (o : Ord) : Spec Try.prog 22 [ordA o] [] (I .i64 (ordE o)) [] := by
 refine spec_am Try.func22 rfl rfl mix 85 rfl [.tmp 2] Try.results22 (Nat.le_of_ble_eq_true rfl) ?_
 (try (refine xst ?_; try exact xtI))
 refine caP (between_s o.by_ 0 7) ?_
 (try (refine xst ?_; try exact xtI))
 refine gcP (fun hcc => between_s o.kind 1 5) ?_
 (try (refine xst ?_; try exact xtI))
 refine gcP (fun hcc => between_s o.who 0 1000000) ?_
 (try (refine xst ?_; try exact xtI))
 refine gcP (fun hcc => cellNear_s o.c) ?_
 (try (refine xst ?_; try exact xtI))
 refine gcP (fun hcc => between_s o.what 0 1000000) ?_
 (try (refine xst ?_; try exact xtI))
 refine cond_i (fun h1 => ?_) (fun h1 => ?_)
 ·(try replace h1 := xhh h1)
  have hb : ordBad o = true := by unfold ordBad; simpa [or_assoc] using h1
  (try (refine xst ?_; try exact xtI))
  (first | (refine retA rfl (Wk.of ?_); (try simp (etaStruct := .none) only [push_cast, DrawG, Int.cast_ofNat_Int, seval]); first | done | (simp [ordE, hb, *]; done) | (simp_all [ordE, hb]; done)) | (refine retA rfl ?_; (try simp (etaStruct := .none) only [push_cast, DrawG, Int.cast_ofNat_Int, seval]); (try simp [ordE, hb, *]); (try exact wkc)))
 ·(try replace h1 := xhh h1)
  have hb : ordBad o = false := by unfold ordBad; simpa [and_assoc] using h1
  (try (refine xst ?_; try exact xtI))
  refine cond_i (fun h2 => ?_) (fun h2 => ?_)
  ·(try replace h2 := xhh h2)
   have hc : ordForm o = true := by unfold ordForm; simp; omega
   (try (refine xst ?_; try exact xtI))
   (first | (refine retA rfl (Wk.of ?_); (try simp (etaStruct := .none) only [push_cast, DrawG, Int.cast_ofNat_Int, seval]); first | done | (simp [ordE, hb, *]; done) | (simp_all [ordE, hb]; done)) | (refine retA rfl ?_; (try simp (etaStruct := .none) only [push_cast, DrawG, Int.cast_ofNat_Int, seval]); (try simp [ordE, hb, *]); (try exact wkc)))
  ·(try replace h2 := xhh h2)
   have hc : ordForm o = false := by unfold ordForm; simp; omega
   (try (refine xst ?_; try exact xtI))
   (first | (refine retA rfl (Wk.of ?_); (try simp (etaStruct := .none) only [push_cast, DrawG, Int.cast_ofNat_Int, seval]); first | done | (simp [ordE, hb, *]; done) | (simp_all [ordE, hb]; done)) | (refine retA rfl ?_; (try simp (etaStruct := .none) only [push_cast, DrawG, Int.cast_ofNat_Int, seval]); (try simp [ordE, hb, *]); (try exact wkc)))
theorem oall_s (l : List Ord) (hl : l.length ≤ 9223372036854775807) : Spec Try.prog 41 [.c (.sl 6 (l.map ordP))] [] (I .i64 (ordsE l)) [] := by
 refine spec_am Try.func41 rfl rfl mix 21 rfl [.tmp 2] Try.results41 (Nat.le_of_ble_eq_true rfl) ?_
 (try (refine xst ?_; try exact xtI))
 refine cond_i (fun h1 => ?_) (fun h1 => ?_)
 ·(try replace h1 := xhh h1)
  have h1' : 100 < l.length := by omega
  (try (refine xst ?_; try exact xtI))
  (first | (refine retA rfl (Wk.of ?_); (try simp (etaStruct := .none) only [push_cast, DrawG, Int.cast_ofNat_Int, seval]); first | done | (simp [ordsE, *]; done) | (simp_all [ordsE]; done)) | (refine retA rfl ?_; (try simp (etaStruct := .none) only [push_cast, DrawG, Int.cast_ofNat_Int, seval]); (try simp [ordsE, *]); (try exact wkc)))
 ·(try replace h1 := xhh h1)
  (try (refine xst ?_; try exact xtI))
  refine loopI (fun k : Nat => ⟨[(11, I .i64 k), (10, I .i64 l.length), (9, .c (.sl 6 (l.map ordP)))], [], 0⟩) (fun k : Nat => k ≤ l.length ∧ ∀ j, j < k → ordE (l.getD j default) = 0) (fun k : Nat => l.length - k) (0) (⟨Nat.zero_le _, fun j h => by omega⟩) (To.mk [] rfl rfl List.nodup_nil trivial ?_) ?_
  ·simp (etaStruct := .none) only [push_cast, DrawG, Int.cast_ofNat_Int, seval]
  rintro k ⟨hk, hn⟩
  (try (refine xst ?_; try exact xtI))
  refine cond_i (fun h2 => ?_) (fun h2 => ?_)
  ·(try replace h2 := xhh h2)
   have hlt : k < l.length := by omega
   (iterate 2 ((try simp (etaStruct := .none) only [push_cast, DrawG, Int.cast_ofNat_Int, seval, getD_in _ _ _ hlt, ordP]); (try (refine xsu ?_; try exact xtI))))
   refine caP (ocheck_s (l.getD k default)) ?_
   (iterate 2 ((try simp (etaStruct := .none) only [push_cast, DrawG, Int.cast_ofNat_Int, seval, getD_in _ _ _ hlt, ordP]); (try (refine xsu ?_; try exact xtI))))
   refine cond_i (fun h3 => ?_) (fun h3 => ?_)
   ·(try replace h3 := xhh h3)
    have e : ordsE l = ordE (l.getD k default) := by
     unfold ordsE
     rw [if_neg (by omega), firstE_drop l k hk hn, firstE_at l k hlt, if_pos h3]
    (iterate 2 ((try simp (etaStruct := .none) only [push_cast, DrawG, Int.cast_ofNat_Int, seval, getD_in _ _ _ hlt, ordP]); (try (refine xsu ?_; try exact xtI))))
    (first | (refine retA rfl (Wk.of ?_); (try simp (etaStruct := .none) only [push_cast, DrawG, Int.cast_ofNat_Int, seval]); first | done | (simp [e, *]; done) | (simp_all [e]; done)) | (refine retA rfl ?_; (try simp (etaStruct := .none) only [push_cast, DrawG, Int.cast_ofNat_Int, seval]); (try simp [e, *]); (try exact wkc)))
   ·(try replace h3 := xhh h3)
    (iterate 2 ((try simp (etaStruct := .none) only [push_cast, DrawG, Int.cast_ofNat_Int, seval, getD_in _ _ _ hlt, ordP]); (try (refine xsu ?_; try exact xtI))))
    refine ⟨k + 1, ⟨by omega, fun j hj => by rcases Nat.lt_or_ge j k with h | h; exact hn j h; rw [show j = k by omega]; exact h3⟩, by omega, To.mk [] rfl rfl List.nodup_nil trivial ?_⟩
    ·(iterate 2 ((try simp (etaStruct := .none) only [push_cast, DrawG, Int.cast_ofNat_Int, seval, getD_in _ _ _ hlt, ordP]); (try (refine xsu ?_; try exact xtI))))
  ·(try replace h2 := xhh h2)
   have e : ordsE l = 0 := by
    unfold ordsE
    rw [if_neg (by omega), firstE_drop l k hk hn, List.drop_eq_nil_of_le (by omega)]; rfl
   (try (refine xst ?_; try exact xtI))
   (first | (refine retA rfl (Wk.of ?_); (try simp (etaStruct := .none) only [push_cast, DrawG, Int.cast_ofNat_Int, seval]); first | done | (simp [e, *]; done) | (simp_all [e]; done)) | (refine retA rfl ?_; (try simp (etaStruct := .none) only [push_cast, DrawG, Int.cast_ofNat_Int, seval]); (try simp [e, *]); (try exact wkc)))
theorem orights_s (l : List Ord) (hl : l.length ≤ 9223372036854775807) : Spec Try.prog 44 [.c (.sl 6 (l.map ordP))] [] (I .i64 (ordsE l)) [] := by
 refine spec_am Try.func44 rfl rfl mix 25 rfl [.tmp 2] Try.results44 (Nat.le_of_ble_eq_true rfl) ?_
 (try (refine xst ?_; try exact xtI))
 refine cond_i (fun h1 => ?_) (fun h1 => ?_)
 ·(try replace h1 := xhh h1)
  have h1' : 100 < l.length := by omega
  (try (refine xst ?_; try exact xtI))
  (first | (refine retA rfl (Wk.of ?_); (try simp (etaStruct := .none) only [push_cast, DrawG, Int.cast_ofNat_Int, seval]); first | done | (simp [ordsE, *]; done) | (simp_all [ordsE]; done)) | (refine retA rfl ?_; (try simp (etaStruct := .none) only [push_cast, DrawG, Int.cast_ofNat_Int, seval]); (try simp [ordsE, *]); (try exact wkc)))
 ·(try replace h1 := xhh h1)
  have h1' : ¬ 100 < l.length := by omega
  (try (refine xst ?_; try exact xtI))
  refine loopI (fun k : Nat => ⟨[(4, I .i64 ((k : Int) - 1)), (3, I .i64 (firstE (l.drop k))), (0, .c (.sl 6 (l.map ordP)))], [], 0⟩) (fun k : Nat => k ≤ l.length) (fun k : Nat => k) (l.length) (Nat.le_refl _) (To.mk [] rfl rfl List.nodup_nil trivial ?_) ?_
  ·simp (etaStruct := .none) only [push_cast, DrawG, Int.cast_ofNat_Int, seval, List.drop_length, firstE]
  rintro k hk
  (try (refine xst ?_; try exact xtI))
  refine cond_i (fun h2 => ?_) (fun h2 => ?_)
  ·(try replace h2 := xhh h2)
   have hlt : k - 1 < l.length := by omega
   have ek : ((k : Int) - 1).toNat = k - 1 := by omega
   have ek2 : ((k - 1 : Nat) : Int) = (k : Int) - 1 := by omega
   have fe := firstE_at l (k - 1) hlt
   rw [show k - 1 + 1 = k by omega] at fe
   (iterate 2 ((try simp (etaStruct := .none) only [push_cast, DrawG, Int.cast_ofNat_Int, seval, ek, getD_in _ _ _ hlt, ordP]); (try (refine xsu ?_; try exact xtI))))
   refine caP (oright_s (l.getD (k - 1) default)) ?_
   (iterate 2 ((try simp (etaStruct := .none) only [push_cast, DrawG, Int.cast_ofNat_Int, seval, ek, getD_in _ _ _ hlt, ordP]); (try (refine xsu ?_; try exact xtI))))
   refine cond_i (fun h3 => ?_) (fun h3 => ?_)
   ·(try replace h3 := xhh h3)
    rw [if_pos h3] at fe
    (iterate 2 ((try simp (etaStruct := .none) only [push_cast, DrawG, Int.cast_ofNat_Int, seval, ek, getD_in _ _ _ hlt, ordP]); (try (refine xsu ?_; try exact xtI))))
    refine ⟨k - 1, by omega, by omega, To.mk [] rfl rfl List.nodup_nil trivial ?_⟩
    ·(iterate 2 ((try simp (etaStruct := .none) only [push_cast, DrawG, Int.cast_ofNat_Int, seval, fe, ek2]); (try (refine xsu ?_; try exact xtI))))
   ·(try replace h3 := xhh h3)
    rw [if_neg (by simpa using h3)] at fe
    (iterate 2 ((try simp (etaStruct := .none) only [push_cast, DrawG, Int.cast_ofNat_Int, seval, ek, getD_in _ _ _ hlt, ordP]); (try (refine xsu ?_; try exact xtI))))
    refine ⟨k - 1, by omega, by omega, To.mk [] rfl rfl List.nodup_nil trivial ?_⟩
    ·(iterate 2 ((try simp (etaStruct := .none) only [push_cast, DrawG, Int.cast_ofNat_Int, seval, fe, ek2]); (try (refine xsu ?_; try exact xtI))))
  ·(try replace h2 := xhh h2)
   obtain rfl : k = 0 := by omega
   (try (refine xst ?_; try exact xtI))
   (first | (refine retA rfl (Wk.of ?_); (try simp (etaStruct := .none) only [push_cast, DrawG, Int.cast_ofNat_Int, seval]); first | done | (simp [ordsE, *]; done) | (simp_all [ordsE]; done)) | (refine retA rfl ?_; (try simp (etaStruct := .none) only [push_cast, DrawG, Int.cast_ofNat_Int, seval]); (try simp [ordsE, *]); (try exact wkc)))
end Go.Proofs.Ytdkmndimmpilaaa
namespace Go.Proofs.Ytdkmndimmpilaaa
set_option linter.all false
open Go.RowKit
set_option maxRecDepth 100000
set_option maxHeartbeats 1000000
def ordOf (c : List Int) : Ord := ⟨c.getD 0 default, c.getD 1 default, c.getD 2 default, ⟨c.getD 3 default, c.getD 4 default⟩, c.getD 5 default⟩
def ordsOf (ns : List Int) (k : Nat) : List Ord := (List.range k).map fun i => ordOf (partC ns 6 i)
theorem ordsOf_succ (ns : List Int) (k : Nat) : ordsOf ns (k + 1) = ordsOf ns k ++ [ordOf (partC ns 6 k)] := by unfold ordsOf; rw [List.range_succ, List.map_append]; rfl
theorem ordsOf_len (ns : List Int) (k : Nat) : (ordsOf ns k).length = k := by simp [ordsOf]
def readV (s : ByteArray) : List Ord × Int :=
 if (openR s).2 ≠ 0 then ([], (openR s).2)
 else if (gaR (openR s).1).2 ≠ 0 then ([], (gaR (openR s).1).2)
 else if (gaR (openR s).1).1.length % 6 ≠ 0 then ([], 4)
 else if ordsE (ordsOf (gaR (openR s).1).1 ((gaR (openR s).1).1.length / 6)) ≠ 0 then ([], ordsE (ordsOf (gaR (openR s).1).1 ((gaR (openR s).1).1.length / 6)))
 else (ordsOf (gaR (openR s).1).1 ((gaR (openR s).1).1.length / 6), 0)
theorem chunk_s (xs : List Int) (m : Nat) (hm : 1 ≤ m) : Spec Try.prog 50 [.c (.sl 1 (xs.map i64P)), I .i64 m] [] (.clo (.func 83) [] [.fel 1 [[.sl 1 (xs.map i64P)]] 0 0, .fel 1 [[.v (.int .i64 m)]] 0 0]) [] := by
 refine spec_am Try.func50 rfl rfl mix 9 rfl [.tmp 4] Try.results50 (Nat.le_of_ble_eq_true rfl) ?_
 (try (refine xst ?_; try exact xtI))
 refine cond_i (fun h1 => ?_) (fun h1 => ?_)
 ·(try replace h1 := xhh h1)
  omega
 ·(try replace h1 := xhh h1)
  (try (refine xst ?_; try exact xtI))
  exact xrz rfl
theorem six {c : List Int} (h : c.length = 6) : ∃ a0 a1 a2 a3 a4 a5, c = [a0, a1, a2, a3, a4, a5] := by
 match c, h with
 | [a0, a1, a2, a3, a4, a5], _ => exact ⟨a0, a1, a2, a3, a4, a5, rfl⟩
theorem read_s (s : ByteArray) (hs : s.size ≤ 140737488351232) : Spec Try.prog 19 [S s] [] (.tup [.c (.sl 6 ((readV s).1.map ordP)), I .i64 (readV s).2]) [] := by
 obtain ⟨r, hr⟩ : ∃ r, r = readV s := ⟨_, rfl⟩
 rw [← hr]
 have hsz := openR_size s
 have hO := copen_s s hs
 unfold readV at hr
 generalize openR s = o at *
 obtain ⟨t, eo⟩ := o
 have hG := getAll_s t (by simp at hsz; omega)
 have hgl := gaR_len t
 simp only at hr hO
 generalize gaR t = g at *
 obtain ⟨ns, eg⟩ := g
 simp only at hr hG hgl
 refine spec_am Try.func19 rfl rfl mix 61 rfl [.tmp 2, .tmp 3] Try.results19 (Nat.le_of_ble_eq_true rfl) ?_
 (try (refine xst ?_; try exact xtI))
 refine caP (hO) ?_
 (try (refine xst ?_; try exact xtI))
 refine cond_i (fun h1 => ?_) (fun h1 => ?_)
 ·(try replace h1 := xhh h1)
  rw [if_pos h1] at hr; subst hr
  (try (refine xst ?_; try exact xtI))
  exact xrz rfl
 ·(try replace h1 := xhh h1)
  rw [if_neg (fun hn => hn h1)] at hr
  (try (refine xst ?_; try exact xtI))
  refine caP (hG) ?_
  (try (refine xst ?_; try exact xtI))
  refine cond_i (fun h2 => ?_) (fun h2 => ?_)
  ·(try replace h2 := xhh h2)
   rw [if_pos h2] at hr; subst hr
   (try (refine xst ?_; try exact xtI))
   exact xrz rfl
  ·(try replace h2 := xhh h2)
   rw [if_neg (fun hn => hn h2)] at hr
   (try (refine xst ?_; try exact xtI))
   refine cond_i (fun h3 => ?_) (fun h3 => ?_)
   ·(try replace h3 := xhh h3)
    rw [if_pos (by omega)] at hr; subst hr
    (try (refine xst ?_; try exact xtI))
    exact xrz rfl
   ·(try replace h3 := xhh h3)
    rw [if_neg (by omega)] at hr
    have hq : ns.length = ns.length / 6 * 6 := by omega
    (try (refine xst ?_; try exact xtI))
    refine caP (chunk_s ns 6 (by decide)) ?_
    (try (refine xst ?_; try exact xtI))
    refine range_i (by kernel_rfl) rfl (chunk_iter ns 6 (ns.length / 6) (by decide) (by decide) hq (by omega)) [(6, .ptr 0 0 0)] 1 2 (fun pre => [(0, .blk 36 [.own 1]), (1, .row 27 6 ((pre.map ordOf).map ordP))]) ((To.nilC 0 0 27 6 36 _ rfl rfl).trans (To.mk [0, 1] rfl rfl (by decide) ?_ ?_)) (by decide) (by decide) (by decide) (fun pre => by exact noMp_list rfl) (by kernel_rfl) (by decide) (by decide) (fun pre x hpl hpr hx => ?_) ?_
    ·simp (etaStruct := .none) only [push_cast, DrawG, Int.cast_ofNat_Int, seval, List.set_cons_zero, List.map_nil]
    ·simp (etaStruct := .none) only [push_cast, DrawG, Int.cast_ofNat_Int, seval]
    ·skip
     obtain ⟨a0, a1, a2, a3, a4, a5, rfl⟩ := six hx
     simp only [List.length_map, List.length_range] at hpl
     (iterate 2 ((try simp (etaStruct := .none) only [push_cast, DrawG, Int.cast_ofNat_Int, seval, rgK_n, i64P, List.map_cons, List.map_nil]); (try (refine xsu ?_; try exact xtI))))
     (try (refine ⟨by kernel_rfl, ?_⟩))
     (iterate 2 ((try simp (etaStruct := .none) only [push_cast, DrawG, Int.cast_ofNat_Int, seval, rgK_n, i64P, List.map_cons, List.map_nil]); (try (refine xsu ?_; try exact xtI))))
     refine To.mk [0, 90] rfl rfl (by decide) ?_ ?_
     ·(iterate 2 ((try simp (etaStruct := .none) only [push_cast, DrawG, Int.cast_ofNat_Int, seval, rgK_n, List.map_append, List.map_cons, List.map_nil, ordP, ordOf, List.getD_cons_zero, List.getD_cons_succ]); (try (refine xsu ?_; try exact xtI))))
     ·(iterate 2 ((try simp (etaStruct := .none) only [push_cast, DrawG, Int.cast_ofNat_Int, seval, rgK_n, i64P, List.map_cons, List.map_nil]); (try (refine xsu ?_; try exact xtI))))
    simp only [show ((List.range (ns.length / 6)).map (partC ns 6)).map ordOf = ordsOf ns (ns.length / 6) from by unfold ordsOf; rw [List.map_map]; rfl]
    (try (refine xst ?_; try exact xtI))
    refine callB (oall_s (ordsOf ns (ns.length / 6)) (by rw [ordsOf_len]; omega)) (WkL.refl _) rfl ?_
    (try (refine xst ?_; try exact xtI))
    refine cond_i (fun h4 => ?_) (fun h4 => ?_)
    ·(try replace h4 := xhh h4)
     rw [if_pos h4] at hr; subst hr; clear hq
     (try (refine xst ?_; try exact xtI))
     exact xrz rfl
    ·(try replace h4 := xhh h4)
     rw [if_neg (fun hn => hn h4)] at hr; subst hr; clear hq
     (try (refine xst ?_; try exact xtI))
     exact xrz rfl
theorem readV_len (s : ByteArray) : (readV s).1.length ≤ 1000 := by
 unfold readV
 have := gaR_len (openR s).1
 repeat' split
 all_goals simp [ordsOf_len]
 omega
end Go.Proofs.Ytdkmndimmpilaaa
namespace Go.Proofs.Ytdkmndimmpilaaa
set_option linter.all false
open Go.RowKit
set_option maxRecDepth 100000
set_option maxHeartbeats 1000000
def shownV (root : Nat) (n i : Int) (s : ByteArray) (t : List Nat) : List Ord × Bool × Int :=
 if (holdsV root s i n t).2 ≠ 0 ∨ (holdsV root s i n t).1 = false then ([], false, (holdsV root s i n t).2) else ((readV s).1, decide ((readV s).2 = 0), (readV s).2)
theorem shown_s (root : Nat) (n i : Int) (s : ByteArray) (t : List Nat) (hs : s.size ≤ 140737488351232) (ht : ∀ x ∈ t, x < 18446744073709551616) (hl : t.length ≤ 9223372036854775807) :
 Spec Try.prog 24 [.c (.v (.int .u64 root)), I .i64 n, I .i64 i, S s, .c (.sl 1 (t.map u64P))] [] (.tup [.c (.sl 6 ((shownV root n i s t).1.map ordP)), B (shownV root n i s t).2.1, I .i64 (shownV root n i s t).2.2]) [] := by
 have H := Holds_s root s i n t hs ht hl
 have R := read_s s hs
 unfold shownV
 generalize holdsV root s i n t = h at *
 obtain ⟨b, e⟩ := h
 generalize readV s = r at *
 obtain ⟨l, f⟩ := r
 by_cases hc : e ≠ 0 ∨ b = false
 ·rw [if_pos hc]
  refine spec_am Try.func24 rfl rfl mix 41 rfl [.tmp 10, .tmp 11, .tmp 12] Try.results24 (Nat.le_of_ble_eq_true rfl) ?_
  (try (refine xst ?_; try exact xtI))
  refine caP (H) ?_
  (try (refine xst ?_; try exact xtI))
  refine cond_i (fun h1 => ?_) (fun h1 => ?_)
  ·(try replace h1 := xhh h1)
   (try (refine xst ?_; try exact xtI))
   exact xrz rfl
  ·(try replace h1 := xhh h1)
   rcases hc with hc | hc <;> simp [hc] at h1
 ·rw [if_neg hc]
  obtain ⟨rfl, rfl⟩ : e = 0 ∧ b = true := by simpa using hc
  refine spec_am Try.func24 rfl rfl mix 41 rfl [.tmp 10, .tmp 11, .tmp 12] Try.results24 (Nat.le_of_ble_eq_true rfl) ?_
  (try (refine xst ?_; try exact xtI))
  refine caP (H) ?_
  (try (refine xst ?_; try exact xtI))
  refine cond_i (fun h1 => ?_) (fun h1 => ?_)
  ·(try replace h1 := xhh h1)
   simp at h1
  ·(try replace h1 := xhh h1)
   (try (refine xst ?_; try exact xtI))
   refine caP (R) ?_
   (try (refine xst ?_; try exact xtI))
   exact xrz rfl
end Go.Proofs.Ytdkmndimmpilaaa
namespace Go.Proofs.Ytdkmndimmpilaaa
set_option linter.all false
open Go.RowKit
set_option maxRecDepth 100000
set_option maxHeartbeats 1000000
theorem partC_get (ns : List Int) (k j : Nat) (hj : j < 6) : (partC ns 6 k).getD j default = ns.getD (6 * k + j) default := by
 unfold partC
 rw [List.getD_eq_getElem?_getD, List.getD_eq_getElem?_getD, List.getElem?_take, if_pos hj, List.getElem?_drop, Nat.mul_comm k 6]
theorem ordOf_part (ns : List Int) (k : Nat) : ordOf (partC ns 6 k) = ⟨ns.getD (6 * k) default, ns.getD (6 * k + 1) default, ns.getD (6 * k + 2) default, ⟨ns.getD (6 * k + 3) default, ns.getD (6 * k + 4) default⟩, ns.getD (6 * k + 5) default⟩ := by
 unfold ordOf
 rw [partC_get ns k 0 (by decide), partC_get ns k 1 (by decide), partC_get ns k 2 (by decide), partC_get ns k 3 (by decide), partC_get ns k 4 (by decide), partC_get ns k 5 (by decide)]; rfl
theorem rtext_s (s : ByteArray) (hs : s.size ≤ 140737488351232) : Spec Try.prog 20 [S s] [] (.tup [.c (.sl 6 ((readV s).1.map ordP)), I .i64 (readV s).2]) [] := by
 obtain ⟨r, hr⟩ : ∃ r, r = readV s := ⟨_, rfl⟩
 rw [← hr]
 have hsz := openR_size s
 have hO := ropened_s s hs
 unfold readV at hr
 generalize openR s = o at *
 obtain ⟨t, eo⟩ := o
 have hG := runpacked_s t (by simp at hsz; omega)
 have hgl := gaR_len t
 simp only at hr hO
 generalize gaR t = g at *
 obtain ⟨ns, eg⟩ := g
 simp only at hr hG hgl
 refine spec_am Try.func20 rfl rfl mix 80 rfl [.tmp 2, .tmp 3] Try.results20 (Nat.le_of_ble_eq_true rfl) ?_
 (try (refine xst ?_; try exact xtI))
 refine caP (hO) ?_
 (try (refine xst ?_; try exact xtI))
 refine cond_i (fun h1 => ?_) (fun h1 => ?_)
 ·(try replace h1 := xhh h1)
  rw [if_pos h1] at hr; subst hr
  (try (refine xst ?_; try exact xtI))
  exact xrz rfl
 ·(try replace h1 := xhh h1)
  rw [if_neg (fun hn => hn h1)] at hr
  (try (refine xst ?_; try exact xtI))
  refine caP (hG) ?_
  (try (refine xst ?_; try exact xtI))
  refine cond_i (fun h2 => ?_) (fun h2 => ?_)
  ·(try replace h2 := xhh h2)
   rw [if_pos h2] at hr; subst hr
   (try (refine xst ?_; try exact xtI))
   exact xrz rfl
  ·(try replace h2 := xhh h2)
   rw [if_neg (fun hn => hn h2)] at hr
   (try (refine xst ?_; try exact xtI))
   refine cond_i (fun h3 => ?_) (fun h3 => ?_)
   ·(try replace h3 := xhh h3)
    rw [if_pos (by omega)] at hr; subst hr
    (try (refine xst ?_; try exact xtI))
    exact xrz rfl
   ·(try replace h3 := xhh h3)
    rw [if_neg (by omega)] at hr
    have hq : ns.length = ns.length / 6 * 6 := by omega
    (try (refine xst ?_; try exact xtI))
    refine loopI (fun i : Nat => ⟨[(7, I .i64 i), (6, .own 0), (5, .c (.sl 1 (ns.map i64P)))], [(0, .row 27 6 ((ordsOf ns (i / 6)).map ordP))], 1⟩) (fun i : Nat => i ≤ ns.length ∧ i % 6 = 0) (fun i : Nat => ns.length - i) (0) (⟨Nat.zero_le _, rfl⟩) ((To.nil 6 27 6 rfl).trans (To.mk [0] rfl rfl (by decide) ?_ ?_)) ?_
    ·simp (etaStruct := .none) only [push_cast, DrawG, Int.cast_ofNat_Int, seval, ordsOf, Nat.zero_div, List.range_zero, List.map_nil]
    ·simp (etaStruct := .none) only [push_cast, DrawG, Int.cast_ofNat_Int, seval]
    rintro i ⟨hk, hn⟩
    (try (refine xst ?_; try exact xtI))
    refine cond_i (fun h4 => ?_) (fun h4 => ?_)
    ·(try replace h4 := xhh h4)
     have hlt : i + 5 < ns.length := by omega
     obtain ⟨j, hj⟩ : ∃ j, j = i + 6 := ⟨_, rfl⟩
     have hjc : (i : Int) + 6 = (j : Int) := by omega
     have hS : ordsOf ns (j / 6) = ordsOf ns (i / 6) ++ [⟨ns.getD i default, ns.getD (i + 1) default, ns.getD (i + 2) default, ⟨ns.getD (i + 3) default, ns.getD (i + 4) default⟩, ns.getD (i + 5) default⟩] := by
      rw [show j / 6 = i / 6 + 1 by omega, ordsOf_succ, ordOf_part, show 6 * (i / 6) = i by omega]
     have hSl := ordsOf_len ns (i / 6)
     have w1 : IntKind.i64.wrap ((i : Int) + 1) = (i : Int) + 1 := wrap_in _ (by omega) (by omega)
     have t1 : ((i : Int) + 1).toNat = i + 1 := by omega
     have w2 : IntKind.i64.wrap ((i : Int) + 2) = (i : Int) + 2 := wrap_in _ (by omega) (by omega)
     have t2 : ((i : Int) + 2).toNat = i + 2 := by omega
     have w3 : IntKind.i64.wrap ((i : Int) + 3) = (i : Int) + 3 := wrap_in _ (by omega) (by omega)
     have t3 : ((i : Int) + 3).toNat = i + 3 := by omega
     have w4 : IntKind.i64.wrap ((i : Int) + 4) = (i : Int) + 4 := wrap_in _ (by omega) (by omega)
     have t4 : ((i : Int) + 4).toNat = i + 4 := by omega
     have w5 : IntKind.i64.wrap ((i : Int) + 5) = (i : Int) + 5 := wrap_in _ (by omega) (by omega)
     have t5 : ((i : Int) + 5).toNat = i + 5 := by omega
     have w6 : IntKind.i64.wrap ((i : Int) + 6) = (i : Int) + 6 := wrap_in _ (by omega) (by omega)
     have t6 : ((i : Int) + 6).toNat = i + 6 := by omega
     have g0 : i < ns.length := by omega
     have g1 : i + 1 < ns.length := by omega
     have g2 : i + 2 < ns.length := by omega
     have g3 : i + 3 < ns.length := by omega
     have g4 : i + 4 < ns.length := by omega
     (iterate 2 ((try simp (etaStruct := .none) only [push_cast, DrawG, Int.cast_ofNat_Int, seval, w1, w2, w3, w4, w5, w6, t1, t2, t3, t4, t5, Int.toNat_natCast, getD_in _ _ _ g0, getD_in _ _ _ g1, getD_in _ _ _ g2, getD_in _ _ _ g3, getD_in _ _ _ g4, getD_in _ _ _ hlt, i64P]); (try (refine xsu ?_; try exact xtI))))
     (try (refine ⟨by kernel_rfl, ?_⟩))
     (iterate 2 ((try simp (etaStruct := .none) only [push_cast, DrawG, Int.cast_ofNat_Int, seval, w1, w2, w3, w4, w5, w6, t1, t2, t3, t4, t5, Int.toNat_natCast, getD_in _ _ _ g0, getD_in _ _ _ g1, getD_in _ _ _ g2, getD_in _ _ _ g3, getD_in _ _ _ g4, getD_in _ _ _ hlt, i64P]); (try (refine xsu ?_; try exact xtI))))
     (try (refine ⟨by kernel_rfl, ?_⟩))
     (iterate 2 ((try simp (etaStruct := .none) only [push_cast, DrawG, Int.cast_ofNat_Int, seval, w1, w2, w3, w4, w5, w6, t1, t2, t3, t4, t5, Int.toNat_natCast, getD_in _ _ _ g0, getD_in _ _ _ g1, getD_in _ _ _ g2, getD_in _ _ _ g3, getD_in _ _ _ g4, getD_in _ _ _ hlt, i64P]); (try (refine xsu ?_; try exact xtI))))
     clear w1 w2 w3 w4 w5 t1 t2 t3 t4 t5 t6
     refine ⟨j, ⟨by omega, by omega⟩, by omega, To.mk [154] rfl rfl (by decide) ?_ ?_⟩
     ·(iterate 2 ((try simp (etaStruct := .none) only [push_cast, DrawG, Int.cast_ofNat_Int, seval, hS, List.map_append, List.map_cons, List.map_nil, ordP]); (try (refine xsu ?_; try exact xtI))))
     ·(iterate 2 ((try simp (etaStruct := .none) only [push_cast, DrawG, Int.cast_ofNat_Int, seval, w6, hjc]); (try (refine xsu ?_; try exact xtI))))
    ·(try replace h4 := xhh h4)
     obtain rfl : i = ns.length := by omega
     (try (refine xst ?_; try exact xtI))
     refine callB (orights_s (ordsOf ns (ns.length / 6)) (by rw [ordsOf_len]; omega)) (WkL.refl _) rfl ?_
     (try (refine xst ?_; try exact xtI))
     refine cond_i (fun h5 => ?_) (fun h5 => ?_)
     ·(try replace h5 := xhh h5)
      rw [if_pos h5] at hr; subst hr; clear hq
      (try (refine xst ?_; try exact xtI))
      exact xrz rfl
     ·(try replace h5 := xhh h5)
      rw [if_neg (fun hn => hn h5)] at hr; subst hr; clear hq
      (try (refine xst ?_; try exact xtI))
      exact xrz rfl
end Go.Proofs.Ytdkmndimmpilaaa
namespace Go.Proofs.Ytdkmndimmpilaaa
set_option linter.all false
open Go.RowKit
set_option maxRecDepth 100000
set_option maxHeartbeats 1000000
theorem leafOf_s (s : ByteArray) (hs : s.size ≤ 140737488351232) : Spec Try.prog 57 [S s] [] (.c (.v (.int .u64 (leafN s : Nat)))) [] :=
 spec_scal (enters Try.func57 rfl rfl) [.string s] _ rfl fun w => leafOf_any s w hs
theorem pairOf_s (a b : Nat) (ha : a < 18446744073709551616) (hb : b < 18446744073709551616) : Spec Try.prog 59 [.c (.v (.int .u64 a)), .c (.v (.int .u64 b))] [] (.c (.v (.int .u64 (pairN a b : Nat)))) [] :=
 spec_scal (enters Try.func59 rfl rfl) [.int .u64 a, .int .u64 b] _ rfl fun w => (pairOf_any a b ha hb w).mono fun e w' ⟨h1, h2⟩ => ⟨h1, h2 ▸ Below.refl _ _⟩
theorem i64_xor_nat (a b : Nat) (ha : a < 9223372036854775808) (hb : b < 9223372036854775808) : bits .xor .i64 (a : Int) (b : Int) = ((a ^^^ b : Nat) : Int) := by
 show IntKind.i64.wrap ((BitVec.ofInt 64 (a : Int) ^^^ BitVec.ofInt 64 (b : Int)).toNat : Nat) = _
 rw [BitVec.toNat_xor, BitVec.ofInt_natCast, BitVec.ofInt_natCast, BitVec.toNat_ofNat, BitVec.toNat_ofNat, Nat.mod_eq_of_lt (show a < 2 ^ 64 by omega), Nat.mod_eq_of_lt (show b < 2 ^ 64 by omega), IntKind.wrap_i64]
 have : a ^^^ b < 2 ^ 63 := Nat.xor_lt_two_pow ha hb
 omega
theorem u64_copy (l : List Nat) (hl : l.length ≤ 17592186043904) : Spec Try.prog 58 [.c (.sl 1 (l.map u64P))] [] (.c (.sl 1 (l.map u64P))) [] := by
 refine spec_am Try.func58 rfl rfl mix 8 rfl [.tmp 2] Try.results58 (Nat.le_of_ble_eq_true rfl) ?_
 (try (refine xst ?_; try exact xtI))
 intro b hb
 (try (refine xst ?_; try exact xtI))
 refine cond_i (fun h => ?_) (fun h => ?_)
 ·(try (refine xst ?_; try exact xtI))
  exact ret0 rfl trivial (by rw [hb h]; exact Wk.nil _)
 ·(try (refine xst ?_; try exact xtI))
  exact ret0 rfl trivial (Wk.refl _)
theorem trailHolds_s (root : Nat) (s : ByteArray) (i0 n0 : Nat) (t0 : List Nat) (hs : s.size ≤ 140737488351232) (ht : ∀ x ∈ t0, x < 18446744073709551616) (hl : t0.length ≤ 17592186043904) (hi : i0 < n0) (hn : n0 ≤ 256) :
 Spec Try.prog 25 [.c (.v (.int .u64 root)), S s, I .i64 i0, I .i64 n0, .c (.sl 1 (t0.map u64P))] [] (B (decide (cl pairN (leafN s) i0 n0 t0 = some root))) [] := by
 refine spec_am Try.func25 rfl rfl mix 53 rfl [.tmp 10] Try.results25 (Nat.le_of_ble_eq_true rfl) ?_
 (try (refine xst ?_; try exact xtI))
 refine caP (leafOf_s s hs) ?_
 (try (refine xst ?_; try exact xtI))
 refine caP (u64_copy t0 hl) ?_
 (try (refine xst ?_; try exact xtI))
 refine loopI (fun x : Nat × List Nat × Nat × Nat => ⟨[(11, .c (.v (.int .u64 x.1))), (4, .c (.sl 1 (x.2.1.map u64P))), (3, I .i64 x.2.2.2), (2, I .i64 x.2.2.1), (0, .c (.v (.int .u64 root)))], [], 0⟩) (fun x : Nat × List Nat × Nat × Nat => x.1 < 18446744073709551616 ∧ (∀ y ∈ x.2.1, y < 18446744073709551616) ∧ x.2.1.length ≤ 17592186043904 ∧ x.2.2.1 < x.2.2.2 ∧ x.2.2.2 ≤ 256 ∧ cl pairN x.1 x.2.2.1 x.2.2.2 x.2.1 = cl pairN (leafN s) i0 n0 t0) (fun x : Nat × List Nat × Nat × Nat => x.2.2.2) ((leafN s, t0, i0, n0)) (⟨leafN_lt s, ht, hl, hi, hn, rfl⟩) (To.mk [] rfl rfl List.nodup_nil trivial ?_) ?_
 ·simp (etaStruct := .none) only [push_cast, DrawG, Int.cast_ofNat_Int, seval]
 rintro ⟨m, t, i, n⟩ ⟨p1, p2, p3, p4, p5, p6⟩
 simp only at p1 p2 p3 p4 p5 p6
 rw [← p6]
 obtain ⟨j, hj⟩ : ∃ j, j = i ^^^ 1 := ⟨_, rfl⟩
 have ex : bits .xor .i64 (i : Int) 1 = (j : Int) := by rw [hj]; exact i64_xor_nat i 1 (by omega) (by decide)
 have CS := cl_step pairN m i n t p4
 rw [← hj] at CS
 have i2 : i / 2 < (n + 1) / 2 := by omega
 (try (refine xst ?_; try exact xtI))
 refine cond_i (fun h1 => ?_) (fun h1 => ?_)
 ·(try replace h1 := xhh h1)
  (iterate 2 ((try simp (etaStruct := .none) only [push_cast, DrawG, Int.cast_ofNat_Int, seval, ex]); (try (refine xsu ?_; try exact xtI))))
  refine cond_i (fun h2 => ?_) (fun h2 => ?_)
  ·(try replace h2 := xhh h2)
   rw [if_pos (by omega)] at CS
   (iterate 2 ((try simp (etaStruct := .none) only [push_cast, DrawG, Int.cast_ofNat_Int, seval, ex]); (try (refine xsu ?_; try exact xtI))))
   refine ⟨(m, t, i / 2, (n + 1) / 2), ⟨p1, p2, p3, by simp only; omega, by simp only; omega, by simp only; rw [← CS, p6]⟩, by simp only; omega, To.mk [] rfl rfl List.nodup_nil trivial ?_⟩
   ·(iterate 2 ((try simp (etaStruct := .none) only [push_cast, DrawG, Int.cast_ofNat_Int, seval, ex]); (try (refine xsu ?_; try exact xtI))))
  ·(try replace h2 := xhh h2)
   rw [if_neg (by omega)] at CS
   (iterate 2 ((try simp (etaStruct := .none) only [push_cast, DrawG, Int.cast_ofNat_Int, seval, ex]); (try (refine xsu ?_; try exact xtI))))
   refine cond_i (fun h3 => ?_) (fun h3 => ?_)
   ·(try replace h3 := xhh h3)
    obtain rfl : t = [] := List.eq_nil_of_length_eq_zero (by omega)
    have e : decide (cl pairN m i n [] = some root) = false := by rw [CS]; rfl
    (iterate 2 ((try simp (etaStruct := .none) only [push_cast, DrawG, Int.cast_ofNat_Int, seval, ex]); (try (refine xsu ?_; try exact xtI))))
    (first | (refine retA rfl (Wk.of ?_); (try simp (etaStruct := .none) only [push_cast, DrawG, Int.cast_ofNat_Int, seval]); first | done | (simp [e, *]; done) | (simp_all [e]; done)) | (refine retA rfl ?_; (try simp (etaStruct := .none) only [push_cast, DrawG, Int.cast_ofNat_Int, seval]); (try simp [e, *]); (try exact wkc)))
   ·(try replace h3 := xhh h3)
    obtain ⟨y, r, rfl⟩ : ∃ y r, t = y :: r := by
     match t, h3 with
     | [], h3 => simp at h3
     | y :: r, _ => exact ⟨y, r, rfl⟩
    rw [clS] at CS
    have m1 := p2 y (by simp)
    have r2 : ∀ z ∈ r, z < 18446744073709551616 := fun z hz => p2 z (by simp [hz])
    have r3 : r.length ≤ 17592186043904 := by rw [List.length_cons] at p3; omega
    (iterate 2 ((try simp (etaStruct := .none) only [push_cast, DrawG, Int.cast_ofNat_Int, seval, ex, u64P]); (try (refine xsu ?_; try exact xtI))))
    refine cond_i (fun h4 => ?_) (fun h4 => ?_)
    ·(try replace h4 := xhh h4)
     rw [if_pos (by omega)] at CS
     (iterate 2 ((try simp (etaStruct := .none) only [push_cast, DrawG, Int.cast_ofNat_Int, seval, ex, u64P]); (try (refine xsu ?_; try exact xtI))))
     refine caP (pairOf_s _ _ p1 m1) ?_
     (iterate 2 ((try simp (etaStruct := .none) only [push_cast, DrawG, Int.cast_ofNat_Int, seval, ex, u64P]); (try (refine xsu ?_; try exact xtI))))
     refine ⟨(pairN m y, r, i / 2, (n + 1) / 2), ⟨pairN_lt _ _, r2, r3, by simp only; omega, by simp only; omega, by simp only; rw [← CS, p6]⟩, by simp only; omega, To.mk [] rfl rfl List.nodup_nil trivial ?_⟩
     ·(iterate 2 ((try simp (etaStruct := .none) only [push_cast, DrawG, Int.cast_ofNat_Int, seval, ex, u64P]); (try (refine xsu ?_; try exact xtI))))
    ·(try replace h4 := xhh h4)
     rw [if_neg (by omega)] at CS
     (iterate 2 ((try simp (etaStruct := .none) only [push_cast, DrawG, Int.cast_ofNat_Int, seval, ex, u64P]); (try (refine xsu ?_; try exact xtI))))
     refine caP (pairOf_s _ _ m1 p1) ?_
     (iterate 2 ((try simp (etaStruct := .none) only [push_cast, DrawG, Int.cast_ofNat_Int, seval, ex, u64P]); (try (refine xsu ?_; try exact xtI))))
     refine ⟨(pairN y m, r, i / 2, (n + 1) / 2), ⟨pairN_lt _ _, r2, r3, by simp only; omega, by simp only; omega, by simp only; rw [← CS, p6]⟩, by simp only; omega, To.mk [] rfl rfl List.nodup_nil trivial ?_⟩
     ·(iterate 2 ((try simp (etaStruct := .none) only [push_cast, DrawG, Int.cast_ofNat_Int, seval, ex, u64P]); (try (refine xsu ?_; try exact xtI))))
 ·(try replace h1 := xhh h1)
  have CO := cl_one pairN m i n t (by omega)
  have e : decide (cl pairN m i n t = some root) = (decide ((t.length : Int) = 0) && decide ((m : Int) = root)) := by
   rw [CO]
   cases t with
   | nil => simp; omega
   | cons a r => simp; omega
  (try (refine xst ?_; try exact xtI))
  (first | (refine retA rfl (Wk.of ?_); (try simp (etaStruct := .none) only [push_cast, DrawG, Int.cast_ofNat_Int, seval]); first | done | (simp [e, *]; done) | (simp_all [e]; done)) | (refine retA rfl ?_; (try simp (etaStruct := .none) only [push_cast, DrawG, Int.cast_ofNat_Int, seval]); (try simp [e, *]); (try exact wkc)))
end Go.Proofs.Ytdkmndimmpilaaa
namespace Go.Proofs.Ytdkmndimmpilaaa
set_option linter.all false
open Go.RowKit
set_option maxRecDepth 100000
theorem ord_eq (l m : List Ord) (hl : l.length ≤ 9223372036854775807) (hm : m.length ≤ 9223372036854775807) : Spec Try.prog 23 [.c (.sl 6 (l.map ordP)), .c (.sl 6 (m.map ordP))] [] (B (decide (l = m))) [] := by
 refine spec_am Try.func23 rfl rfl mix 26 rfl [.tmp 4] Try.results23 (Nat.le_of_ble_eq_true rfl) ?_
 (try (refine xst ?_; try exact xtI))
 refine cond_i (fun h1 => ?_) (fun h1 => ?_)
 ·(try replace h1 := xhh h1)
  have e : l ≠ m := by intro e; subst e; simp at h1
  (try (refine xst ?_; try exact xtI))
  exact ret0 rfl trivial (Wk.of (by rw [decide_eq_false e]; rfl))
 ·(try replace h1 := xhh h1)
  (try (refine xst ?_; try exact xtI))
  refine loopI (fun k : Nat => ⟨[(13, I .i64 k), (12, I .i64 l.length), (1, .c (.sl 6 (m.map ordP))), (0, .c (.sl 6 (l.map ordP)))], [], 0⟩) (fun k : Nat => k ≤ l.length ∧ ∀ j, j < k → l.getD j default = m.getD j default) (fun k : Nat => l.length - k) (0) (⟨Nat.zero_le _, fun j h => by omega⟩) (To.mk [] rfl rfl List.nodup_nil trivial ?_) ?_
  ·simp (etaStruct := .none) only [push_cast, DrawG, Int.cast_ofNat_Int, seval]
  rintro k ⟨hk, hn⟩
  (try (refine xst ?_; try exact xtI))
  refine cond_i (fun h2 => ?_) (fun h2 => ?_)
  ·(try replace h2 := xhh h2)
   have hlt : k < l.length := by omega
   have hlt2 : k < m.length := by omega
   (iterate 2 ((try simp (etaStruct := .none) only [push_cast, DrawG, Int.cast_ofNat_Int, seval, getD_in _ _ _ hlt, getD_in _ _ _ hlt2, ordP, ord_dec]); (try (refine xsu ?_; try exact xtI))))
   (try (refine ⟨by kernel_rfl, ?_⟩))
   (iterate 2 ((try simp (etaStruct := .none) only [push_cast, DrawG, Int.cast_ofNat_Int, seval, getD_in _ _ _ hlt, getD_in _ _ _ hlt2, ordP, ord_dec]); (try (refine xsu ?_; try exact xtI))))
   refine cond_i (fun h3 => ?_) (fun h3 => ?_)
   ·(try replace h3 := xhh h3)
    have e : l ≠ m := by intro e; subst e; simp at h3
    (iterate 2 ((try simp (etaStruct := .none) only [push_cast, DrawG, Int.cast_ofNat_Int, seval, getD_in _ _ _ hlt, getD_in _ _ _ hlt2, ordP, ord_dec]); (try (refine xsu ?_; try exact xtI))))
    exact ret0 rfl trivial (Wk.of (by rw [decide_eq_false e]; rfl))
   ·(try replace h3 := xhh h3)
    (iterate 2 ((try simp (etaStruct := .none) only [push_cast, DrawG, Int.cast_ofNat_Int, seval, getD_in _ _ _ hlt, getD_in _ _ _ hlt2, ordP, ord_dec]); (try (refine xsu ?_; try exact xtI))))
    refine ⟨k + 1, ⟨by omega, fun j hj => by rcases Nat.lt_or_ge j k with h | h; exact hn j h; rw [show j = k by omega]; simpa using h3⟩, by omega, To.mk [] rfl rfl List.nodup_nil trivial ?_⟩
    ·(iterate 2 ((try simp (etaStruct := .none) only [push_cast, DrawG, Int.cast_ofNat_Int, seval, getD_in _ _ _ hlt, getD_in _ _ _ hlt2, ordP, ord_dec]); (try (refine xsu ?_; try exact xtI))))
  ·(try replace h2 := xhh h2)
   have e : l = m := by
    refine List.ext_getElem (by omega) fun i i1 i2 => ?_
    have := hn i (by omega)
    rwa [getD_at _ _ i1, getD_at _ _ i2] at this
   (try (refine xst ?_; try exact xtI))
   exact ret0 rfl trivial (Wk.of (by rw [decide_eq_true e]; rfl))
end Go.Proofs.Ytdkmndimmpilaaa
namespace Go.Proofs.Ytdkmndimmpilaaa
set_option linter.all false
open Go.RowKit Go.ChangeShapes Go.WideShapes Go.ChangeAt
def RelCs (w : World) (ps : List PV) (cs : List Value) : Prop := ∀ (j : Nat) p u, ps[j]? = some p → cs[j]? = some u → RelP w (· < w.heap.size) p u
theorem RelCs.nil {w : World} : RelCs w [] [] := fun j p u h => by simp at h
theorem RelCs.cons {w : World} {p : PV} {u : Value} {ps : List PV} {cs : List Value} (h : RelP w (· < w.heap.size) p u) (h' : RelCs w ps cs) : RelCs w (p :: ps) (u :: cs) := by
 intro j q v h1 h2
 cases j with
 | zero => simp at h1 h2; subst h1 h2; exact h
 | succ j => exact h' j q v (by simpa using h1) (by simpa using h2)
theorem RelCs.append {w : World} : ∀ {ps qs : List PV} {cs ds : List Value}, ps.length = cs.length → RelCs w ps cs → RelCs w qs ds → RelCs w (ps ++ qs) (cs ++ ds)
 | [], _, [], _, _, _, h => h
 | [], _, _ :: _, _, hl, _, _ => by simp at hl
 | _ :: _, _, [], _, hl, _, _ => by simp at hl
 | p :: ps, qs, c :: cs, ds, hl, h, h' => by
  refine RelCs.cons (h 0 p c rfl rfl) (RelCs.append (by simpa using hl) (fun j q v h1 h2 => h (j + 1) q v (by simpa using h1) (by simpa using h2)) h')
def OpA (P : Program) (T sz : Nat) (w : World) {α : Type} (pv : α → List PV) (ok : α → Prop) : Prop :=
 ∃ (β : Type) (enc : β → List Value) (okb : β → Prop) (f : β → α), Opens P T sz w enc okb ∧ ∀ y, okb y → ok (f y) ∧ (pv (f y)).length = sz ∧ (enc y).length = sz ∧ RelCs w (pv (f y)) (enc y)
section
variable {P : Program} {T : Nat} {w : World}
theorem OpA.i64 (h : P.underlying T = some (.int .i64)) : OpA P T 1 w i64P In64 :=
 ⟨_, _, _, id, Opens.i64 h, fun y hy => ⟨hy, rfl, rfl, .cons (relP_v rfl) .nil⟩⟩
theorem OpA.u64 (h : P.underlying T = some (.int .u64)) : OpA P T 1 w u64P (fun n => n < 18446744073709551616) :=
 ⟨_, _, _, id, Opens.u64 h, fun y hy => ⟨hy, rfl, rfl, .cons (relP_v rfl) .nil⟩⟩
def u32P (n : Nat) : List PV := [.v (.int .u32 n)]
theorem OpA.u32 (h : P.underlying T = some (.int .u32)) : OpA P T 1 w u32P (fun n => n < 4294967296) :=
 ⟨_, _, _, id, Opens.u32 h, fun y hy => ⟨hy, rfl, rfl, .cons (relP_v rfl) .nil⟩⟩
theorem OpA.bool (h : P.underlying T = some .bool) : OpA P T 1 w boolP (fun _ => True) :=
 ⟨_, _, _, id, Opens.bool h, fun y hy => ⟨hy, rfl, rfl, .cons (relP_v rfl) .nil⟩⟩
theorem OpA.str (h : P.underlying T = some .string) : OpA P T 1 w strP (fun s => s.size ≤ 140737488351232) :=
 ⟨_, _, _, id, Opens.str h, fun y hy => ⟨hy, rfl, rfl, .cons (relP_v rfl) .nil⟩⟩
theorem OpA.map {sz : Nat} {α β : Type} {pv : α → List PV} {ok : α → Prop} {pv' : β → List PV} {ok' : β → Prop} (h : OpA P T sz w pv ok) (f : α → β) (hf : ∀ x, pv' (f x) = pv x) (hok : ∀ x, ok x → ok' (f x)) : OpA P T sz w pv' ok' := by
 obtain ⟨γ, enc, okb, g, h1, h2⟩ := h
 exact ⟨γ, enc, okb, fun y => f (g y), h1, fun y hy => by obtain ⟨a, b, c, d⟩ := h2 y hy; exact ⟨hok _ a, by rw [hf]; exact b, c, by rw [hf]; exact d⟩⟩
theorem OpA.slice {E sz bts : Nat} {α : Type} {pv : α → List PV} {ok : α → Prop} (hT : P.underlying T = some (.slice E)) (hc : P.cellsOf E = sz) (hsz : 0 < sz) (hby : P.bytesOf E = bts) (hE : OpA P E sz w pv ok) :
 OpA P T 1 w (fun xs : List α => [.sl sz (xs.map pv)]) (fun xs => (∀ x ∈ xs, ok x) ∧ xs.length * bts ≤ 140737488351232 ∧ xs.length ≤ 9223372036854775807) := by
 obtain ⟨γ, enc, okb, g, h1, h2⟩ := hE
 refine ⟨_, _, _, fun s => s.xs.map g, Opens.slice hT hc hsz hby h1, fun s hs => ⟨⟨?_, ?_, ?_⟩, rfl, rfl, ?_⟩⟩
 ·intro x hx
  obtain ⟨y, hy, rfl⟩ := List.mem_map.1 hx
  exact (h2 y (hs.each y hy).1).1
 ·have := hs.reach
  have h3 : s.xs.length * bts ≤ s.c * bts := Nat.mul_le_mul_right _ hs.cap
  simp only [List.length_map]; omega
 ·have h3 := hs.cap; have h4 := hs.max; unfold maxLen at h4; simp only [List.length_map]; omega
 ·refine .cons ?_ .nil
  have := rel_sl (pv := fun y => pv (g y)) hs fun y hy ho => by
   obtain ⟨_, a, b, d⟩ := h2 y ho
   exact ⟨a, d⟩
  simpa [List.map_map, Function.comp_def] using this
def OpAF (P : Program) (w : World) (fs : List Field) (o sz : Nat) {α : Type} (pv : α → List PV) (ok : α → Prop) : Prop :=
 ∃ (β : Type) (enc : β → List Value) (okb : β → Prop) (f : β → α), OpensF P w fs o sz enc okb ∧ ∀ y, okb y → ok (f y) ∧ (pv (f y)).length = sz ∧ (enc y).length = sz ∧ RelCs w (pv (f y)) (enc y)
theorem OpAF.nil {o : Nat} : OpAF P w [] o 0 (fun _ : Unit => []) (fun _ => True) :=
 ⟨_, _, _, id, OpensF.nil, fun y hy => ⟨trivial, rfl, rfl, .nil⟩⟩
theorem OpAF.cons {f : Field} {fs : List Field} {o n sz : Nat} {α β : Type} {pv : α → List PV} {ok : α → Prop} {pv' : β → List PV} {ok' : β → Prop}
 (ho : f.offset = o) (hn : P.cellsOf f.type = n) (h : OpA P f.type n w pv ok) (h' : OpAF P w fs (o + n) sz pv' ok') :
 OpAF P w (f :: fs) o (n + sz) (fun x : α × β => pv x.1 ++ pv' x.2) (fun x => ok x.1 ∧ ok' x.2) := by
 obtain ⟨γ, enc, okb, g, h1, h2⟩ := h
 obtain ⟨γ', enc', okb', g', h1', h2'⟩ := h'
 refine ⟨_, _, _, fun y => (g y.1, g' y.2), OpensF.cons ho hn h1 h1', fun y hy => ?_⟩
 obtain ⟨a, b, c, d⟩ := h2 y.1 hy.1
 obtain ⟨a', b', c', d'⟩ := h2' y.2 hy.2
 exact ⟨⟨a, a'⟩, by simp [b, b'], by simp [c, c'], .append (by rw [b, c]) d d'⟩
theorem OpA.struct {sz : Nat} {fs : Array Field} {α : Type} {pv : α → List PV} {ok : α → Prop} (hT : P.underlying T = some (.struct fs)) (hc : P.cellsOf T = sz) (h : OpAF P w fs.toList 0 sz pv ok) : OpA P T sz w pv ok := by
 obtain ⟨γ, enc, okb, g, h1, h2⟩ := h
 exact ⟨γ, enc, okb, g, Opens.struct hT hc h1, h2⟩
theorem OpA.arg {sz : Nat} {α : Type} {pv : α → List PV} {ok : α → Prop} (h : OpA P T sz w pv ok) {H : Type} {eH : TypeId × Value → H} {v : Value} {d : DataW H} {p : List MemPlace}
 (hT : DataW.Trod eH P w 0 (fun _ => true) true T v d p) {ts : List TypeId} {ds : List (DataW H)} (hz : (DataW.weightsEach P ts ds).all (· ≤ reachBytes) = true) (j : Nat) (h1 : ts[j]? = some T) (h2 : ds[j]? = some d) : ∃ x : α, ok x ∧ (pv x).length = v.cells.toList.length ∧ RelCs w (pv x) v.cells.toList := by
 obtain ⟨γ, enc, okb, g, k1, k2⟩ := h
 obtain ⟨y, hy, ho⟩ := Opens.arg k1 hT hz j h1 h2
 obtain ⟨a, b, c, e⟩ := k2 y ho
 exact ⟨g y, a, by rw [hy, b, c], by rw [hy]; exact e⟩
theorem rel_one {p : PV} {v : Value} (hv : v.cells = #[v]) (hr : RelCs w [p] v.cells.toList) : RelA (· < 0) w (· < w.heap.size) (fun _ => none) (.c p) v :=
 relA_c (hr 0 p v rfl (by rw [hv]; rfl))
theorem one_slice {base e : Nat} {v : Value} (ht : P.underlying T = some (.slice e)) (h : Value.okWide P w .any base T v) : v.cells = #[v] := by obtain ⟨a, l, c, rfl⟩ := okWide_slice ht h; rfl
theorem one_int {base : Nat} {k : IntKind} {v : Value} (ht : P.underlying T = some (.int k)) (h : Value.okWide P w .any base T v) : v.cells = #[v] := by obtain ⟨n, rfl⟩ := okWide_int ht h; rfl
theorem one_str {base : Nat} {v : Value} (ht : P.underlying T = some .string) (h : Value.okWide P w .any base T v) : v.cells = #[v] := by obtain ⟨n, rfl⟩ := okWide_string ht h; rfl
end
end Go.Proofs.Ytdkmndimmpilaaa
