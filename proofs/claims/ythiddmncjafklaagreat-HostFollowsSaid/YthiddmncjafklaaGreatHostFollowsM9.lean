/- Lemmas for the proof of hostFollows.proved. -/
import Derived.Test.YthiddmncjafklaaGreatHostFollowsM8
import Derived.Lib.VarintBits
import Derived.Lib.ConvBytes
import Derived.Laws.IdiomStrings
import Derived.Shelf.Strings.Builder1
import Derived.Shelf.Bits.Mul64
import Derived.Test.YthiddmncjafklaaGreatProg
import Derived.Deep.QuietTactic
import Derived.BigQuiet
import Derived.Laws.Externs
import Derived.Laws.IdiomCopy
namespace Go.Proofs.YthiddmncjafklaaGreat
set_option linter.all false
open Go.RowKit
def mb (m : Nat) (b : UInt8) : Nat := mx (m ^^^ b.toNat)
theorem mb_lt (m : Nat) (b : UInt8) : mb m b < 18446744073709551616 := mx_lt _
def lf (m : Nat) : List UInt8 → Nat
 | [] => m
 | b :: l => lf (mb m b) l
theorem lf_snoc (m : Nat) (l : List UInt8) (b : UInt8) : lf m (l ++ [b]) = mb (lf m l) b := by
 induction l generalizing m with
 | nil => simp only [List.nil_append, lf]
 | cons c l ih => simp only [List.cons_append, lf, ih]
theorem lf_lt (l : List UInt8) : ∀ m, m < 18446744073709551616 → lf m l < 18446744073709551616 := by
 induction l with
 | nil => intro m h; rw [lf]; exact h
 | cons b l ih => intro m _; rw [lf]; exact ih _ (mb_lt _ _)
def mz (n : Nat) : Nat := mx n
theorem mz_lt (n : Nat) : mz n < 18446744073709551616 := mx_lt _
def leafN (s : ByteArray) : Nat := lf (mz s.size) s.data.toList
theorem mix_z (n : Nat) (w : World) : Calls Tryz.prog 148 #[.int .u64 n] w fun e w' => e = .returned (.int .u64 (mz n : Nat)) ∧ w = w' := mix_any n w
theorem mix_b (m : Nat) (b : UInt8) (w : World) : Calls Tryz.prog 148 #[.int .u64 (m ^^^ b.toNat : Nat)] w fun e w' => e = .returned (.int .u64 (mb m b : Nat)) ∧ w = w' := mix_any _ w
set_option maxRecDepth 20000 in
set_option maxHeartbeats 1000000 in
theorem leaf_any (s : ByteArray) (w : World) (hs : s.size ≤ 140737488351232) :
 Calls Tryz.prog 112 #[.string s] w fun e w' => e = .returned (.int .u64 (leafN s : Nat)) ∧ w = w' := by
 have hu : IntKind.u64.wrap (s.size : Int) = s.size := by rw [IntKind.wrap_u64]; omega
 go_enter Tryz.func112, Tryz.ntmps112
 go_wp2_with fail
 refine (mix_z _ _).mono ?_
 rintro e w' ⟨rfl, rfl⟩
 clear hu
 go_wp2_with fail
 go_loop [3, 11] (fun mv iv => ∃ k : Nat, k ≤ s.size ∧ iv = .int .i64 k ∧ mv = .int .u64 (lf (mz s.size) (s.data.toList.take k) : Nat)) (fun _ iv => s.size - (intOf iv).toNat)
 case atStart => exact ⟨0, by omega, rfl, by rw [List.take_zero, lf]⟩
 case round =>
  obtain ⟨k, hk, rfl, rfl⟩ := hrel
  have hl := lf_lt (s.data.toList.take k) _ (mz_lt s.size)
  by_cases h8 : k < s.size
  ·have hs1 : lf (mz s.size) (s.data.toList.take (k + 1)) = mb (lf (mz s.size) (s.data.toList.take k)) s[k] := by rw [bytes_snoc s k h8, lf_snoc]
   generalize lf (mz s.size) (s.data.toList.take k) = y at *
   have HS := PLift.up hs1; clear hs1
   have hx := UInt8.toNat_lt s[k]
   have hc : IntKind.u64.wrap (s[k].toNat : Int) = (s[k].toNat : Int) := by rw [IntKind.wrap_u64]; omega
   have hxo := xorN y s[k].toNat hl (by omega)
   go_wp2_with fail
   refine (mix_b _ _ _).mono ?_
   rintro e w' ⟨rfl, rfl⟩
   rw [← HS.down]
   clear hxo hc
   go_wp2_with fail
   go_round
   case rel => exact ⟨k + 1, by omega, by go_num, rfl⟩
   case measure => simp [intOf]; omega
  ·obtain rfl : k = s.size := by omega
   have hf : lf (mz s.size) (s.data.toList.take s.size) = leafN s := by rw [take_all, leafN]
   rw [hf]
   clear hf hl
   go_wp2_with fail
   go_returns
   exact ⟨rfl, rfl⟩
end Go.Proofs.YthiddmncjafklaaGreat
namespace Go.Proofs
open Go.Shelf
def Tryz.lays169_ren : Go.Shelf.Ren := ⟨fun | 169 => 147 | n => n, fun | 70 => 206 | 9 => 9 | 0 => 0 | 72 => 209 | 37 => 207 | 127 => 232 | 3 => 3 | 5 => 5 | n => n, fun | n => n⟩
theorem Tryz.lays169 : Go.Proofs.Lays.n169 Tryz.prog Tryz.lays169_ren := {
 mixed := by kernel_rfl
 f169 := Tryz.func147.trans (congrArg some (by kernel_rfl))
 t0 := Tryz.underlying0
 a0 := Tryz.isAgg0
 z0 := Tryz.sizeOf0
 v0 := Tryz.zeroValue0
 t3 := Tryz.underlying3
 a3 := Tryz.isAgg3
 z3 := Tryz.sizeOf3
 v3 := Tryz.zeroValue3
 t9 := Tryz.underlying9
 a9 := Tryz.isAgg9
 z9 := Tryz.sizeOf9
 v9 := Tryz.zeroValue9
 t37 := Tryz.underlying207
 a37 := Tryz.isAgg207
 z37 := Tryz.sizeOf207
 v37 := Tryz.zeroValue207
 t70 := Tryz.underlying206
 a70 := Tryz.isAgg206
 z70 := Tryz.sizeOf206
 v70 := Tryz.zeroValue206
 t72 := Tryz.underlying209
 a72 := Tryz.isAgg209
 z72 := Tryz.sizeOf209
 v72 := Tryz.zeroValue209
 t127 := Tryz.underlying232
 a127 := Tryz.isAgg232
 z127 := Tryz.sizeOf232
 v127 := Tryz.zeroValue232 }
theorem Tryz.Builder_Extra_169 : Builder.Extra Tryz.prog Tryz.lays169_ren := {
 sizeBuilder := by kernel_rfl
 liesBuilder := by kernel_rfl
 t5 := Tryz.underlying5
 a5 := Tryz.isAgg5
 z5 := Tryz.sizeOf5
 v5 := Tryz.zeroValue5
 infoByte := by kernel_rfl
 cellsByte := by kernel_rfl
 sizeByte := by kernel_rfl
 neB5 := by decide }
open Go.RowKit in
theorem Tryz.Builder_String_any (B b : Nat) (l : List UInt8) (w : World) (h : Lib.IsBuilder 209 5 B b (Lib.byteCells l) w) (hBw : B ≤ w.heap.size) :
 Calls Tryz.prog 147 #[.pointer (some ⟨b, 0, none⟩)] w fun e w' => e = .returned (.string ⟨l.toArray⟩) ∧ Below B w w' := Any.Builder_String_any Tryz.lays169 Tryz.Builder_Extra_169 B b l w h hBw
end Go.Proofs
namespace Go.Proofs.YthiddmncjafklaaGreat
set_option linter.all false
open Go.RowKit
def sp (n : Nat) : Nat := Lib.bitLen (n - 1) - 1
end Go.Proofs.YthiddmncjafklaaGreat
namespace Go.Proofs.YthiddmncjafklaaGreat
set_option linter.all false
open Go.RowKit
set_option maxRecDepth 100000
set_option maxHeartbeats 1000000
theorem leaf_s (s : ByteArray) (hs : s.size ≤ 140737488351232) : Spec Tryz.prog 112 [S s] [] (.c (.v (.int .u64 (leafN s : Nat)))) [] :=
 spec_scal (enters Tryz.func112 rfl rfl) [.string s] _ rfl fun w => (leaf_any s w hs).mono fun e w' ⟨h1, h2⟩ => ⟨h1, h2 ▸ Below.refl _ _⟩
end Go.Proofs.YthiddmncjafklaaGreat
namespace Go.Proofs.YthiddmncjafklaaGreat
set_option linter.all false
open Go.RowKit
theorem bldSize : (Tryz.prog.info? 209).map (·.size) = some 2 := by kernel_rfl
set_option maxHeartbeats 1000000 in
set_option maxRecDepth 100000 in
theorem bld_check_used (b : Nat) (w : World) (h0 : w.cell? ⟨b, 0, none⟩ = some (.pointer (some ⟨b, 0, none⟩))) :
 Calls Tryz.prog 168 #[.pointer (some ⟨b, 0, none⟩)] w fun e w' => e = .returned (.tuple #[]) ∧ w' = w := by
 obtain ⟨j, hj, _⟩ := Option.map_eq_some_iff.1 bldSize
 go_enter Tryz.func168, Tryz.ntmps168
 go_wp2
 rw [Lib.run_neq_ptr_same w _ Tryz.underlying206 hj]
 go_wp2
 go_end0
 exact ⟨rfl, rfl⟩
set_option maxHeartbeats 1000000 in
set_option maxRecDepth 100000 in
theorem bld_check_fresh (b : Nat) (w : World) (h0 : w.cell? ⟨b, 0, none⟩ = some (.pointer none)) (hsh : w.shape? b = some (209, 2)) (hfz : w.frozen? ⟨b, 0, none⟩ = false) :
 Calls Tryz.prog 168 #[.pointer (some ⟨b, 0, none⟩)] w fun e w' => e = .returned (.tuple #[]) ∧ w' = w.setCell ⟨b, 0, none⟩ (.pointer (some ⟨b, 0, none⟩)) := by
 obtain ⟨j, hj, hjs⟩ := Option.map_eq_some_iff.1 bldSize
 go_enter Tryz.func168, Tryz.ntmps168
 go_wp2
 rw [Lib.run_to_unsafe w ⟨b, 0, none⟩ Tryz.underlying206 Tryz.underlying245 hj (by rw [hjs]; decide) hsh (Nat.zero_lt_succ 1)]
 simp only [Result.andThen]
 rw [Oper.upon_value]
 go_wp2
 rw [run_callFunc_extern Tryz.func177 (by kernel_rfl) (by kernel_rfl) (by kernel_rfl) (e := Extern.AbiNoEscape.same) (by kernel_rfl)]
 rw [Lib.run_noEscape]
 simp only [Result.andThen]
 rw [Oper.upon_value]
 go_wp2
 rw [Lib.run_from_unsafe w ⟨b, 0, none⟩ Tryz.underlying245 Tryz.underlying206 hj hsh (by kernel_rfl)]
 simp only [Result.andThen]
 rw [Oper.upon_value]
 go_wp2
 go_end0
 exact ⟨rfl, rfl⟩
theorem bld_check (B b : Nat) (bs : List Value) (w : World) (h : Lib.IsBuilder 209 5 B b bs w) :
 Calls Tryz.prog 168 #[.pointer (some ⟨b, 0, none⟩)] w fun e w' => e = .returned (.tuple #[]) ∧ (Lib.BuilderAt 209 5 B b (.pointer (some ⟨b, 0, none⟩)) bs w' ∧ Below B w w') := by
 rcases h with h | h
 ·refine (bld_check_fresh b w h.cell0 h.shape h.frozen0).mono ?_
  rintro e w' ⟨rfl, rfl⟩
  exact ⟨rfl, h.used _, (Below.refl B w).setCell (p := ⟨b, 0, none⟩) h.1 _⟩
 ·refine (bld_check_used b w h.cell0).mono ?_
  rintro e w' ⟨rfl, rfl⟩
  exact ⟨rfl, h, Below.refl B _⟩
set_option maxHeartbeats 2000000 in
set_option maxRecDepth 100000 in
theorem bld_write (B b : Nat) (bs : List Value) (s : ByteArray) (w : World) (h : Lib.IsBuilder 209 5 B b bs w) (hlen : bs.length + s.size ≤ 140737488355328) (hBw : B ≤ w.heap.size) :
 Calls Tryz.prog 144 #[.pointer (some ⟨b, 0, none⟩), .string s] w fun e w' => e = .returned (.tuple #[.int .i64 s.size, .nilIface]) ∧ (Lib.BuilderAt 209 5 B b (.pointer (some ⟨b, 0, none⟩)) (bs ++ Lib.strCells s) w' ∧ Below B w w') := by
 obtain ⟨i0, hi, hz0, hz1, hz2⟩ := info_parts (show (Tryz.prog.info? 5).map (fun i => (i.zero, i.size, i.bytes)) = some (some (.int .u8 0), 1, 1) by kernel_rfl)
 go_enter Tryz.func144, Tryz.ntmps144
 go_wp2_with (go_at_call 168; refine (bld_check B b bs _ h).mono ?_)
 rintro e w1 ⟨rfl, h1, hb1⟩
 obtain ⟨hB, v, hbk, hown, hne⟩ := h1
 have c0 : w1.cell? ⟨b, 0, none⟩ = some (.pointer (some ⟨b, 0, none⟩)) := by rw [Lib.cell_of_heap hbk]; rfl
 have c1 : w1.cell? ⟨b, 1, none⟩ = some v := by rw [Lib.cell_of_heap hbk]; rfl
 go_wp2_with (at_builtin; refine Lib.wpList_append_own_string _ rfl _ _ 207 9 rfl B 5 i0 Tryz.underlying207 Tryz.underlying9 hi hz0 hz1 hz2 _ _ _ rfl hown s rfl ?c3 ?c4 ?c5 ?_)
 case c3 => unfold maxLen; omega
 case c4 => omega
 case c5 => have := hb1.size; omega
 intro v' w2 hown' hgrow _
 have hlt : b < w1.heap.size := by
  rcases Nat.lt_or_ge b w1.heap.size with h' | h'
  ·exact h'
  ·simp [Array.getElem?_eq_none h'] at hbk
 have hb2 : w2.heap[b]? = some (.cells #[.pointer (some ⟨b, 0, none⟩), v] 209 (0, 0)) := by
  rw [hgrow.block b hlt (fun e => hne e.symm)]
  exact hbk
 have d0 : w2.cell? ⟨b, 0, none⟩ = some (.pointer (some ⟨b, 0, none⟩)) := by rw [Lib.cell_of_heap hb2]; rfl
 have d1 : w2.cell? ⟨b, 1, none⟩ = some v := by rw [Lib.cell_of_heap hb2]; rfl
 have f1 : w2.frozen? ⟨b, 1, none⟩ = false := Lib.frozen_of_heap hb2 1
 obtain ⟨ao, n', cap, rfl⟩ : ∃ ao n' cap, v' = .slice ao n' cap := by
  rcases hown'.2 with ⟨hv, _⟩ | ⟨g, cap, cur, hv, _⟩
  ·exact ⟨_, _, _, hv⟩
  ·exact ⟨_, _, _, hv⟩
 go_wp2
 go_ret2
 refine ⟨rfl, ?_, ?_⟩
 ·exact Lib.BuilderAt.put (T := 209) (e := 5) hB hb2 (bs' := bs ++ Lib.strCells s) (by simpa [Lib.strCells_length] using hown') (by decide)
 ·exact (hb1.grown hgrow (by have := hb1.size; omega) (fun k hk => (hown.lt k hk).1)).setCell (p := ⟨b, 1, none⟩) hB _
theorem bld_keep {w w' : World} {B b : Nat} {bs : List Value} (h : Lib.IsBuilder 209 5 B b bs w) (hb : Below w.heap.size w w') : Lib.IsBuilder 209 5 B b bs w' := by
 have key : ∀ p, Lib.BuilderAt 209 5 B b p bs w → Lib.BuilderAt 209 5 B b p bs w' := by
  rintro p ⟨h1, v, h2, ho, h3⟩
  refine ⟨h1, v, (hb.block b (Array.getElem?_eq_some_iff.1 h2).1).trans h2, ?_, h3⟩
  refine ⟨ho.1, ?_⟩
  rcases ho.2 with ⟨g1, g2⟩ | ⟨g, cap, cur, g1, g2, g3, g4⟩
  ·exact .inl ⟨g1, g2⟩
  ·exact .inr ⟨g, cap, cur, g1, g2, (hb.block g (Array.getElem?_eq_some_iff.1 g3).1).trans g3, g4⟩
 exact h.imp (key _) (key _)
end Go.Proofs.YthiddmncjafklaaGreat
namespace Go.Proofs.YthiddmncjafklaaGreat
set_option linter.all false
open Go.RowKit
def paN (n : Int) : List UInt8 := packB (foldN n)
def paK (xs : List Int) (k : Nat) : List UInt8 := packB xs.length ++ (xs.take k).flatMap paN
def paR (xs : List Int) : ByteArray × Int := if 1000 < xs.length then (⟨#[]⟩, 2) else (⟨(paK xs xs.length).toArray⟩, 0)
theorem packB_len (n : Nat) : (packB n).length ≤ 10 := (packF_len 9 n).2
theorem paK_len (xs : List Int) (k : Nat) : (paK xs k).length ≤ 10 + 10 * k := by
 unfold paK
 rw [List.length_append]
 have h1 := packB_len xs.length
 have h2 : ∀ l : List Int, (l.flatMap paN).length ≤ 10 * l.length := by
  intro l
  induction l with
  | nil => simp
  | cons x l ih =>
   have := packB_len (foldN x)
   have e : paN x = packB (foldN x) := rfl
   rw [List.flatMap_cons, List.length_append, List.length_cons, e]; omega
 have h3 := h2 (xs.take k)
 have h4 : (xs.take k).length ≤ k := List.length_take_le _ _
 omega
theorem paK_succ (xs : List Int) (k : Nat) (h : k < xs.length) : paK xs (k + 1) = paK xs k ++ packB (foldN xs[k]) := by
 unfold paK
 rw [take_snoc' xs k h, List.flatMap_append, List.append_assoc]; simp [paN]
set_option maxHeartbeats 2000000 in
set_option maxRecDepth 20000 in
theorem putAll_any (a : Option Addr) (c B : Nat) (xs : List Int) (w : World) (hE : Els w B a 1 ei64 xs) (hx : ∀ x ∈ xs, I64 x) (hl : xs.length ≤ 140737488351232) (hB : B ≤ w.heap.size) :
 Calls Tryz.prog 111 #[.slice a xs.length c] w fun e w' => e = .returned (.tuple #[.string (paR xs).1, .int .i64 (paR xs).2]) ∧ Below w.heap.size w w' := by
 have HE := PLift.up hE
 have HX := PLift.up hx
 clear hE hx
 by_cases hn : 1000 < xs.length
 ·rw [show paR xs = (⟨#[]⟩, 2) from if_pos hn]
  go_enter Tryz.func111, Tryz.ntmps111
  go_wp2_with fail
  go_returns
  exact ⟨rfl, Below.refl _ _⟩
 ·rw [show paR xs = (⟨(paK xs xs.length).toArray⟩, 0) from if_neg hn]
  go_enter Tryz.func111, Tryz.ntmps111
  go_wp2_with fail
  refine (put_any xs.length (by omega) _).mono ?_
  rintro e w1 ⟨rfl, hb1⟩
  have BL : PLift (Lib.IsBuilder 209 5 w.heap.size w.heap.size [] w1) := PLift.up (bld_keep (Lib.fresh_isBuilder 209 5 w) hb1)
  have HB1 : PLift (Below w.heap.size w w1) := PLift.up ((below_lit w _).trans (hb1.mono (by simp)))
  have hs1 := HB1.down.size
  clear hb1
  have hp0 : packS xs.length = ⟨(paK xs 0).toArray⟩ := by simp [paK, packS]
  rw [hp0]
  clear hp0
  go_wp2_with fail
  refine (bld_write w.heap.size w.heap.size [] _ w1 BL.down (by rw [bs_size]; have := paK_len xs 0; simp; omega) hs1).mono ?_
  rintro e w2 ⟨rfl, hw2, hb2⟩
  have BL2 : PLift (Lib.IsBuilder 209 5 w.heap.size w.heap.size (Lib.byteCells (paK xs 0)) w2) := PLift.up (.inr hw2)
  have HB2 := PLift.up (HB1.down.trans hb2)
  clear hw2 hb2 BL HB1 hs1
  go_wp2_with fail
  go_loopw [17] (fun iv wr => ∃ (k : Nat), k ≤ xs.length ∧ iv = .int .i64 k ∧ Hid (Lib.IsBuilder 209 5 w.heap.size w.heap.size (Lib.byteCells (paK xs k)) wr ∧ Below w.heap.size w wr)) (fun iv _ => xs.length - (intOf iv).toNat)
  case atStart => exact ⟨0, by omega, rfl, BL2.down, HB2.down⟩
  case round =>
   obtain ⟨k, hk, rfl, hI⟩ := hrel
   have hBw := hI.out.2.size
   by_cases hlt : k < xs.length
   ·obtain ⟨b, o, rfl, hb, hc⟩ := (HE.down.below hI.out.2 hB).i64 k hlt
    have hxk := HX.down xs[k] (List.getElem_mem hlt)
    have hs := paK_succ xs k hlt
    have hkl := paK_len xs k
    generalize xs[k] = x at *
    have hf := foldN_lt x hxk
    have hps := packS_size (foldN x)
    have F := PLift.up (fold_any x hxk)
    have Q := PLift.up (fun w => put_any (foldN x) hf w)
    have HS : PLift (Lib.byteCells (paK xs k) ++ Lib.strCells (packS (foldN x)) = Lib.byteCells (paK xs (k + 1))) := PLift.up (by rw [hs]; simp [Lib.byteCells, Lib.strCells, packS])
    generalize foldN x = y at *
    generalize packS y = Y at *
    have HI := PLift.up hI.out
    clear hI hs hxk
    go_wp2_with fail
    refine (F.down _).mono ?_
    rintro e w2 ⟨rfl, rfl⟩
    go_wp2_with fail
    refine (Q.down _).mono ?_
    rintro e w2 ⟨rfl, hb2⟩
    have BL3 := PLift.up (bld_keep HI.down.1 hb2)
    have HB3 := PLift.up (HI.down.2.trans (hb2.mono hBw))
    have hBw3 := HB3.down.size
    clear hb2
    go_wp2_with fail
    refine (bld_write w.heap.size w.heap.size _ _ w2 BL3.down (by simp [Lib.byteCells]; omega) hBw3).mono ?_
    rintro e w3 ⟨rfl, hw3, hb3⟩
    have HB4 := PLift.up (HB3.down.trans hb3)
    have HW3 := PLift.up hw3
    clear hw3 hb3
    go_wp2_with fail
    go_roundw
    case rel => exact ⟨k + 1, by omega, by go_num, by rw [← HS.down]; exact .inr HW3.down, HB4.down⟩
    case measure => simp [intOf]; omega
   ·obtain rfl : k = xs.length := by omega
    have HI := PLift.up hI.out
    clear hI
    go_wp2_with fail
    refine (Tryz.Builder_String_any w.heap.size w.heap.size (paK xs xs.length) wr HI.down.1 hBw).mono ?_
    rintro e w2 ⟨rfl, hb2⟩
    have HB2 := PLift.up (HI.down.2.trans hb2)
    clear hb2
    go_wp2_with fail
    go_returns
    exact ⟨rfl, HB2.down⟩
end Go.Proofs.YthiddmncjafklaaGreat
namespace Go.Proofs.YthiddmncjafklaaGreat
set_option linter.all false
open Go.RowKit
def mk (m : Nat) (xs : List Nat) : Nat := xs.foldl (fun m n => m ^^^ mx n) m
theorem mk_lt (xs : List Nat) : ∀ m, m < 18446744073709551616 → mk m xs < 18446744073709551616 := by
 induction xs with
 | nil => intro m h; exact h
 | cons x xs ih => intro m h; exact ih _ (xorN_lt _ _ h (mx_lt x))
theorem mk_snoc (m : Nat) (xs : List Nat) (x : Nat) : mk m (xs ++ [x]) = mk m xs ^^^ mx x := by simp [mk]
structure U64s where
 a : Option Addr
 c : Nat
 xs : List Nat
def U64s.val (u : U64s) : Value := .slice u.a u.xs.length u.c
def U64s.enc (u : U64s) : List Value := [u.val]
end Go.Proofs.YthiddmncjafklaaGreat
namespace Go.Proofs.YthiddmncjafklaaGreat
set_option linter.all false
open Go.RowKit
def cnt (l : List Nat) (i k : Nat) : Nat := (l.take k).count (l.getD i 0)
end Go.Proofs.YthiddmncjafklaaGreat
namespace Go.Proofs.YthiddmncjafklaaGreat
set_option linter.all false
open Go.RowKit
set_option maxRecDepth 100000
set_option maxHeartbeats 1000000
theorem rel_strInt {s : ByteArray} {n : Int} {U : Nat → Prop} {w : World} {F : Nat → Prop} {β : Nat → Option Bind} : RelA U w F β (.tup [S s, I .i64 n]) (.tuple #[.string s, .int .i64 n]) := by
 simp only [RelA]
 refine ⟨_, rfl, ?_⟩
 simp [RelL, RelA, RelP, Value.oneCell']
theorem putAll_s (xs : List Int) (hx : ∀ x ∈ xs, I64 x) (hl : xs.length ≤ 140737488351232) : Spec Tryz.prog 111 [.c (.sl 1 (xs.map i64P))] [] (.tup [S (paR xs).1, I .i64 (paR xs).2]) [] :=
 spec_any (enters Tryz.func111 rfl rfl) _ _ (.tuple #[.string (paR xs).1, .int .i64 (paR xs).2]) (fun _ _ _ _ => rel_strInt) fun w F β vs hF hv => by
  obtain ⟨u, rfl, hu⟩ := relL_one hv
  obtain ⟨a, c, rfl, _, _, hE⟩ := rel_els (fun n : Int => Value.int .i64 n) xs hF hu
  exact putAll_any a c w.heap.size xs w hE hx hl (Nat.le_refl _)
theorem mturn_s (m n : Nat) (hm : m < 18446744073709551616) : Spec Tryz.prog 149 [.c (.v (.int .u64 m)), .c (.v (.int .u64 n))] [] (.c (.v (.int .u64 (m ^^^ mx n : Nat)))) [] :=
 spec_scal (enters Tryz.func149 rfl rfl) [.int .u64 m, .int .u64 n] _ rfl fun w => (turn_any m n hm w).mono fun e w' h => ⟨h.1, h.2 ▸ Below.refl _ _⟩
theorem mk_nil (m : Nat) : mk m [] = m := rfl
theorem mkl (l : List Nat) (m : Nat) (k : Nat) (h : k < l.length) : mk m (l.take (k + 1)) = mk m (l.take k) ^^^ mx (l.getD k default) := by rw [take_snoc l k h, mk_snoc]
theorem mall_s (l : List Nat) (hl : l.length ≤ 1000000) : Spec Tryz.prog 113 [.c (.sl 1 [[.sl 1 (l.map u64P)]])] [] (.c (.v (.int .u64 (mk 0 l : Nat)))) [] := by
 refine spec_am Tryz.func113 rfl rfl mix 26 rfl [.tmp 2] Tryz.results113 (Nat.le_of_ble_eq_true rfl) ?_
 (try (refine xst ?_; try exact xtI))
 refine loopI (fun k : Nat => ⟨[(10, I .i64 k), (9, I .i64 1), (8, .c (.sl 1 [[.sl 1 (l.map u64P)]])), (3, .c (.v (.int .u64 ((if k = 0 then 0 else mk 0 l : Nat) : Int))))], [], 0⟩) (fun k : Nat => k ≤ 1) (fun k : Nat => 1 - k) (0) (Nat.zero_le _) (To.mk [] rfl rfl List.nodup_nil trivial ?_) ?_
 ·simp (etaStruct := .none) only [push_cast, DrawG, Int.cast_ofNat_Int, seval, if_pos trivial]
 rintro k hk
 (try (refine xst ?_; try exact xtI))
 refine cond_i (fun h1 => ?_) (fun h1 => ?_)
 ·(try replace h1 := xhh h1)
  obtain rfl : k = 0 := by omega
  (try (refine xst ?_; try exact xtI))
  refine loopI (fun k : Nat => ⟨[(16, I .i64 k), (15, I .i64 l.length), (14, .c (.sl 1 (l.map u64P))), (10, I .i64 0), (9, I .i64 1), (8, .c (.sl 1 [[.sl 1 (l.map u64P)]])), (3, .c (.v (.int .u64 (mk 0 (l.take k) : Nat))))], [], 0⟩) (fun k : Nat => k ≤ l.length) (fun k : Nat => l.length - k) (0) (Nat.zero_le _) (To.mk [] rfl rfl List.nodup_nil trivial ?_) ?_
  ·simp (etaStruct := .none) only [push_cast, DrawG, Int.cast_ofNat_Int, seval, List.take_zero, mk_nil]
  rintro k hk
  (try (refine xst ?_; try exact xtI))
  refine cond_i (fun h2 => ?_) (fun h2 => ?_)
  ·(try replace h2 := xhh h2)
   have hlt : k < l.length := by omega
   have ml := mkl l 0 k hlt
   (iterate 2 ((try simp (etaStruct := .none) only [push_cast, DrawG, Int.cast_ofNat_Int, seval, getD_in _ _ _ hlt, u64P]); (try (refine xsu ?_; try exact xtI))))
   refine caP (mturn_s (mk 0 (l.take k)) (l.getD k default) (mk_lt _ 0 (by decide))) ?_
   (iterate 2 ((try simp (etaStruct := .none) only [push_cast, DrawG, Int.cast_ofNat_Int, seval, getD_in _ _ _ hlt, u64P]); (try (refine xsu ?_; try exact xtI))))
   refine ⟨k + 1, by omega, by omega, To.mk [] rfl rfl List.nodup_nil trivial ?_⟩
   ·(iterate 2 ((try simp (etaStruct := .none) only [push_cast, DrawG, Int.cast_ofNat_Int, seval, ml]); (try (refine xsu ?_; try exact xtI))))
  ·(try replace h2 := xhh h2)
   obtain rfl : k = l.length := by omega
   (iterate 2 ((try simp (etaStruct := .none) only [push_cast, DrawG, Int.cast_ofNat_Int, seval, List.take_length]); (try (refine xsu ?_; try exact xtI))))
   refine ⟨1, by omega, by omega, To.mk [] rfl rfl List.nodup_nil trivial ?_⟩
   ·(iterate 2 ((try simp (etaStruct := .none) only [push_cast, DrawG, Int.cast_ofNat_Int, seval, if_neg (show ¬ (1 : Nat) = 0 by decide), Int.zero_add]); (try (refine xsu ?_; try exact xtI))))
 ·(try replace h1 := xhh h1)
  obtain rfl : k = 1 := by omega
  (try (refine xst ?_; try exact xtI))
  exact xrz rfl
theorem mof_s (l : List Nat) (hl : l.length ≤ 1000000) : Spec Tryz.prog 70 [.c (.sl 1 (l.map u64P))] [] (.c (.v (.int .u64 (mk 0 l : Nat)))) [] := by
 refine spec_am Tryz.func70 rfl rfl mix 6 rfl [.tmp 2] Tryz.results70 (Nat.le_of_ble_eq_true rfl) ?_
 (try (refine xst ?_; try exact xtI))
 refine callB (mall_s l hl) (WkL.refl _) rfl ?_
 (try (refine xst ?_; try exact xtI))
 exact xrz rfl
def leafI (l : List Int) : Nat := leafN (paR l).1
theorem paR_size (l : List Int) : (paR l).1.size ≤ 20000 := by
 unfold paR
 split
 ·show 0 ≤ 20000; omega
 ·show ByteArray.size ⟨(paK l l.length).toArray⟩ ≤ 20000
  rw [bs_size]; have := paK_len l l.length; omega
theorem tleaf_s (l : List Int) (hx : ∀ x ∈ l, I64 x) (hl : l.length ≤ 1000000) : Spec Tryz.prog 69 [.c (.sl 1 (l.map i64P))] [] (.c (.v (.int .u64 (leafI l : Nat)))) [] := by
 have := paR_size l
 refine spec_am Tryz.func69 rfl rfl mix 12 rfl [.tmp 2] Tryz.results69 (Nat.le_of_ble_eq_true rfl) ?_
 (try (refine xst ?_; try exact xtI))
 refine caP (putAll_s l hx (by omega)) ?_
 (try (refine xst ?_; try exact xtI))
 refine caP (leaf_s (paR l).1 (by omega)) ?_
 (try (refine xst ?_; try exact xtI))
 (first | (refine retA rfl (Wk.of ?_); (try simp (etaStruct := .none) only [push_cast, DrawG, Int.cast_ofNat_Int, seval]); first | done | (simp [leafI, *]; done) | (simp_all [leafI]; done)) | (refine retA rfl ?_; (try simp (etaStruct := .none) only [push_cast, DrawG, Int.cast_ofNat_Int, seval]); (try simp [leafI, *]); (try exact wkc)))
end Go.Proofs.YthiddmncjafklaaGreat
namespace Go.Proofs.YthiddmncjafklaaGreat
set_option linter.all false
open Go.RowKit
set_option maxRecDepth 100000
set_option maxHeartbeats 1000000
def hdI (w : Wld) : List Int := [1, w.f.w, w.f.h, w.next, w.now] ++ w.f.p
def basI (w : Wld) (i : Nat) : List Int := [2, (i : Int), (w.bases.getD i default).x, (w.bases.getD i default).y, w.stocks.getD i default]
def minI (w : Wld) (i : Nat) : List Int := [3, (i : Int), w.mines.getD i default]
def trpI (w : Wld) (i : Nat) : List Int := [4, (w.troops.getD i default).id, (w.troops.getD i default).owner, (w.troops.getD i default).kind, (w.troops.getD i default).c.x, (w.troops.getD i default).c.y, (w.troops.getD i default).life, (w.troops.getD i default).load]
def wl1 (w : Wld) (k : Nat) : List Nat := leafI (hdI w) :: (List.range k).map fun i => leafI (basI w i)
def wl2 (w : Wld) (k : Nat) : List Nat := wl1 w w.bases.length ++ (List.range k).flatMap fun i => if w.mines.getD i default = 0 then [] else [leafI (minI w i)]
def wl3 (w : Wld) (k : Nat) : List Nat := wl2 w w.mines.length ++ (List.range k).map fun i => leafI (trpI w i)
theorem wl1_0 (w : Wld) : wl1 w 0 = [leafI (hdI w)] := rfl
theorem wl2_0 (w : Wld) : wl2 w 0 = wl1 w w.bases.length := by simp [wl2]
theorem wl3_0 (w : Wld) : wl3 w 0 = wl2 w w.mines.length := by simp [wl3]
theorem wl1_s (w : Wld) (k : Nat) : wl1 w (k + 1) = wl1 w k ++ [leafI (basI w k)] := by simp [wl1, List.range_succ]
theorem wl2_s (w : Wld) (k : Nat) : wl2 w (k + 1) = wl2 w k ++ (if w.mines.getD k default = 0 then [] else [leafI (minI w k)]) := by
 unfold wl2; rw [List.range_succ, List.flatMap_append, ← List.append_assoc]; congr 1; exact List.flatMap_singleton ..
theorem wl3_s (w : Wld) (k : Nat) : wl3 w (k + 1) = wl3 w k ++ [leafI (trpI w k)] := by simp [wl3, List.range_succ]
theorem wl1_len (w : Wld) : ∀ k, (wl1 w k).length = k + 1 := by intro k; simp [wl1]
theorem wl2_len (w : Wld) : ∀ k, (wl2 w k).length ≤ w.bases.length + 1 + k
 | 0 => by rw [wl2_0, wl1_len]; omega
 | k + 1 => by
  have := wl2_len w k
  rw [wl2_s, List.length_append]; split <;> simp <;> omega
theorem wl3_len (w : Wld) (k : Nat) : (wl3 w k).length ≤ w.bases.length + 1 + w.mines.length + k := by
 have := wl2_len w w.mines.length
 unfold wl3; rw [List.length_append, List.length_map, List.length_range]; omega
def wmarkV (w : Wld) : Nat := mk 0 (wl3 w w.troops.length)
theorem world_b {w : Wld} (h : worldE w = 0) : (1 ≤ w.f.w ∧ w.f.w ≤ 40) ∧ (1 ≤ w.f.h ∧ w.f.h ≤ 40) ∧ (w.f.p.length ≤ 1600 ∧ ∀ p ∈ w.f.p, 0 ≤ p ∧ p < 4) ∧ w.bases.length ≤ 8 ∧ w.troops.length ≤ 100 ∧ w.stocks.length = w.bases.length ∧ w.mines.length = w.f.p.length ∧ (1 ≤ w.next ∧ w.next ≤ 1000000) ∧ (0 ≤ w.now ∧ w.now ≤ 1000000) ∧
 (∀ k, k < w.bases.length → (0 ≤ (w.bases.getD k default).x ∧ (w.bases.getD k default).x ≤ 39) ∧ (0 ≤ (w.bases.getD k default).y ∧ (w.bases.getD k default).y ≤ 39) ∧ 0 ≤ w.stocks.getD k default ∧ w.stocks.getD k default ≤ 1000000) ∧
 (∀ k, k < w.mines.length → 0 ≤ w.mines.getD k default ∧ w.mines.getD k default ≤ 1000000) := by
 obtain ⟨h1, h2, h3, h4, h5⟩ := worldE_ok h
 obtain ⟨g1, g2, g3, g4⟩ := fldE_ok h1
 obtain ⟨f1, f2, f3, f4⟩ := worldF_ok h4
 have hm2 : w.f.w * w.f.h ≤ 40 * 40 := Int.mul_le_mul g1.2 g2.2 (by omega) (by omega)
 unfold worldB at h5
 simp only [Bool.and_eq_true] at h5
 refine ⟨g1, g2, ⟨by omega, g4⟩, h2, h3, f1, f2, f3, f4, fun k hk => ?_, fun k hk => ?_⟩
 ·have := (allN_iff _ _).1 h5.1.1 k hk
  unfold baseB at this
  simp only [Bool.and_eq_true, within_iff] at this
  have hi := inF_iff.1 (ground_iff.1 this.1.1).1
  omega
 ·have := (allN_iff _ _).1 h5.1.2 k hk
  unfold mineB at this
  simp only [Bool.and_eq_true, within_iff] at this
  omega
theorem hdI_ok {w : Wld} (h : worldE w = 0) : (∀ x ∈ hdI w, I64 x) ∧ (hdI w).length ≤ 1000000 := by
 obtain ⟨b1, b2, b3, b4, b5, b6, b7, b8, b9, b10, b11⟩ := world_b h
 refine ⟨fun x hx => ?_, by simp [hdI]; omega⟩
 simp only [hdI, List.mem_append, List.mem_cons, List.not_mem_nil, or_false] at hx
 unfold I64
 rcases hx with (rfl | rfl | rfl | rfl | rfl) | hx
 ·omega
 ·omega
 ·omega
 ·omega
 ·omega
 ·have := b3.2 x hx; omega
theorem basI_ok {w : Wld} (h : worldE w = 0) {k : Nat} (hk : k < w.bases.length) : (∀ x ∈ basI w k, I64 x) ∧ (basI w k).length ≤ 1000000 := by
 obtain ⟨b1, b2, b3, b4, b5, b6, b7, b8, b9, b10, b11⟩ := world_b h
 have := b10 k hk
 refine ⟨fun x hx => ?_, by simp [basI]⟩
 simp only [basI, List.mem_cons, List.not_mem_nil, or_false] at hx
 unfold I64
 rcases hx with rfl | rfl | rfl | rfl | rfl <;> omega
theorem minI_ok {w : Wld} (h : worldE w = 0) {k : Nat} (hk : k < w.mines.length) : (∀ x ∈ minI w k, I64 x) ∧ (minI w k).length ≤ 1000000 := by
 obtain ⟨b1, b2, b3, b4, b5, b6, b7, b8, b9, b10, b11⟩ := world_b h
 have := b11 k hk
 refine ⟨fun x hx => ?_, by simp [minI]⟩
 simp only [minI, List.mem_cons, List.not_mem_nil, or_false] at hx
 unfold I64
 rcases hx with rfl | rfl | rfl <;> omega
theorem kindV_le {k : Int} : (kindV k).life ≤ 20 := by unfold kindV; split; decide; split <;> decide
theorem trpI_ok {w : Wld} (h : worldE w = 0) {k : Nat} (hk : k < w.troops.length) : (∀ x ∈ trpI w k, I64 x) ∧ (trpI w k).length ≤ 1000000 := by
 obtain ⟨b1, b2, b3, b4, b5, b6, b7, b8, b9, b10, b11⟩ := world_b h
 obtain ⟨t1, t2, t3, t4, t5, t6, t7, t8⟩ := (troop_ok h hk).1
 have kl := @kindV_le (w.troops.getD k default).kind
 refine ⟨fun x hx => ?_, by simp [trpI]⟩
 simp only [trpI, List.mem_cons, List.not_mem_nil, or_false] at hx
 unfold I64
 rcases hx with rfl | rfl | rfl | rfl | rfl | rfl | rfl | rfl <;> omega
theorem tmark_s (w : Wld) (hl : wldL w) (hw : worldE w = 0) : Spec Tryz.prog 40 [wldA w] [] (.tup [.c (.v (.int .u64 (wmarkV w : Nat))), I .i64 0]) [] := by
 obtain ⟨b1, b2, b3, b4, b5, b6, b7, b8, b9, b10, b11⟩ := world_b hw
 have h0 := hdI_ok hw
 refine spec_am Tryz.func40 rfl rfl mix 107 rfl [.tmp 2, .tmp 3] Tryz.results40 (Nat.le_of_ble_eq_true rfl) ?_
 (try (refine xst ?_; try exact xtI))
 refine caP (tcheck_s w hl) ?_
 (try (refine xst ?_; try exact xtI))
 refine cond_i (fun h1 => ?_) (fun h1 => ?_)
 ·(try replace h1 := xhh h1)
  exact absurd hw h1
 ·(try replace h1 := xhh h1)
  (try (refine xst ?_; try exact xtI))
  refine callB (tleaf_s (hdI w) h0.1 h0.2) (WkL.refl _) rfl ?_
  (try (refine xst ?_; try exact xtI))
  refine loopI (fun k : Nat => ⟨[(37, I .i64 k), (36, I .i64 w.bases.length), (35, .c (.sl 2 (w.bases.map celP))), (5, .own 1), (1, .ptr 0 0 0)], [(0, .blk 28 (wldC w)), (1, .row 44 1 ((wl1 w k).map u64P))], 2⟩) (fun k : Nat => k ≤ w.bases.length) (fun k : Nat => w.bases.length - k) (0) (Nat.zero_le _) (To.mk [0, 3] rfl rfl (by decide) ?_ ?_) ?_
  ·simp (etaStruct := .none) only [push_cast, DrawG, Int.cast_ofNat_Int, seval, wl1_0, u64P]
  ·simp (etaStruct := .none) only [push_cast, DrawG, Int.cast_ofNat_Int, seval]
  rintro k hk
  (try (refine xst ?_; try exact xtI))
  refine cond_i (fun h2 => ?_) (fun h2 => ?_)
  ·(try replace h2 := xhh h2)
   have hlt : k < w.bases.length := by omega
   have hlt2 : k < w.stocks.length := by omega
   have ok := basI_ok hw hlt
   have ln := wl1_len w k
   (iterate 2 ((try simp (etaStruct := .none) only [push_cast, DrawG, Int.cast_ofNat_Int, seval, getD_in _ _ _ hlt, getD_in _ _ _ hlt2, celP, i64P]); (try (refine xsu ?_; try exact xtI))))
   refine callB (tleaf_s (basI w k) ok.1 ok.2) (WkL.refl _) rfl ?_
   (iterate 2 ((try simp (etaStruct := .none) only [push_cast, DrawG, Int.cast_ofNat_Int, seval, getD_in _ _ _ hlt, getD_in _ _ _ hlt2, celP, i64P]); (try (refine xsu ?_; try exact xtI))))
   (try (refine ⟨by kernel_rfl, ?_⟩))
   (iterate 2 ((try simp (etaStruct := .none) only [push_cast, DrawG, Int.cast_ofNat_Int, seval, getD_in _ _ _ hlt, getD_in _ _ _ hlt2, celP, i64P]); (try (refine xsu ?_; try exact xtI))))
   refine ⟨k + 1, by omega, by omega, To.mk [0, 59] rfl rfl (by decide) ?_ ?_⟩
   ·(iterate 2 ((try simp (etaStruct := .none) only [push_cast, DrawG, Int.cast_ofNat_Int, seval, wl1_s, List.map_append, u64P]); (try (refine xsu ?_; try exact xtI))))
   ·(iterate 2 ((try simp (etaStruct := .none) only [push_cast, DrawG, Int.cast_ofNat_Int, seval, getD_in _ _ _ hlt, getD_in _ _ _ hlt2, celP, i64P]); (try (refine xsu ?_; try exact xtI))))
  ·(try replace h2 := xhh h2)
   obtain rfl : k = w.bases.length := by omega
   (try (refine xst ?_; try exact xtI))
   refine loopI (fun k : Nat => ⟨[(61, I .i64 k), (60, I .i64 w.mines.length), (59, .c (.sl 1 (w.mines.map i64P))), (5, .own 1), (1, .ptr 0 0 0)], [(0, .blk 28 (wldC w)), (1, .row 44 1 ((wl2 w k).map u64P))], 2⟩) (fun k : Nat => k ≤ w.mines.length) (fun k : Nat => w.mines.length - k) (0) (Nat.zero_le _) (To.mk [0, 1] rfl rfl (by decide) ?_ ?_) ?_
   ·simp (etaStruct := .none) only [push_cast, DrawG, Int.cast_ofNat_Int, seval, wl2_0]
   ·simp (etaStruct := .none) only [push_cast, DrawG, Int.cast_ofNat_Int, seval]
   rintro k hk
   (try (refine xst ?_; try exact xtI))
   refine cond_i (fun h3 => ?_) (fun h3 => ?_)
   ·(try replace h3 := xhh h3)
    have hlt : k < w.mines.length := by omega
    have ok := minI_ok hw hlt
    have ln := wl2_len w k
    have bm := b11 k hlt
    have st := wl2_s w k
    (iterate 2 ((try simp (etaStruct := .none) only [push_cast, DrawG, Int.cast_ofNat_Int, seval, getD_in _ _ _ hlt, i64P]); (try (refine xsu ?_; try exact xtI))))
    refine cond_i (fun h4 => ?_) (fun h4 => ?_)
    ·(try replace h4 := xhh h4)
     rw [if_neg (by omega)] at st
     (iterate 2 ((try simp (etaStruct := .none) only [push_cast, DrawG, Int.cast_ofNat_Int, seval, getD_in _ _ _ hlt, i64P]); (try (refine xsu ?_; try exact xtI))))
     refine callB (tleaf_s (minI w k) ok.1 ok.2) (WkL.refl _) rfl ?_
     (iterate 2 ((try simp (etaStruct := .none) only [push_cast, DrawG, Int.cast_ofNat_Int, seval, getD_in _ _ _ hlt, i64P]); (try (refine xsu ?_; try exact xtI))))
     refine ⟨k + 1, by omega, by omega, To.mk [0, 4] rfl rfl (by decide) ?_ ?_⟩
     ·(iterate 2 ((try simp (etaStruct := .none) only [push_cast, DrawG, Int.cast_ofNat_Int, seval, st, List.map_append, u64P]); (try (refine xsu ?_; try exact xtI))))
     ·(iterate 2 ((try simp (etaStruct := .none) only [push_cast, DrawG, Int.cast_ofNat_Int, seval, getD_in _ _ _ hlt, i64P]); (try (refine xsu ?_; try exact xtI))))
    ·(try replace h4 := xhh h4)
     rw [if_pos (by omega), List.append_nil] at st
     (iterate 2 ((try simp (etaStruct := .none) only [push_cast, DrawG, Int.cast_ofNat_Int, seval, getD_in _ _ _ hlt, i64P]); (try (refine xsu ?_; try exact xtI))))
     refine ⟨k + 1, by omega, by omega, To.mk [0, 1] rfl rfl (by decide) ?_ ?_⟩
     ·(iterate 2 ((try simp (etaStruct := .none) only [push_cast, DrawG, Int.cast_ofNat_Int, seval, st]); (try (refine xsu ?_; try exact xtI))))
     ·(iterate 2 ((try simp (etaStruct := .none) only [push_cast, DrawG, Int.cast_ofNat_Int, seval, getD_in _ _ _ hlt, i64P]); (try (refine xsu ?_; try exact xtI))))
   ·(try replace h3 := xhh h3)
    obtain rfl : k = w.mines.length := by omega
    (try (refine xst ?_; try exact xtI))
    refine loopI (fun k : Nat => ⟨[(79, I .i64 k), (78, I .i64 w.troops.length), (77, .c (.sl 7 (w.troops.map trpP))), (5, .own 0)], [(0, .row 44 1 ((wl3 w k).map u64P))], 1⟩) (fun k : Nat => k ≤ w.troops.length) (fun k : Nat => w.troops.length - k) (0) (Nat.zero_le _) (To.mk [1] rfl rfl (by decide) ?_ ?_) ?_
    ·simp (etaStruct := .none) only [push_cast, DrawG, Int.cast_ofNat_Int, seval, wl3_0]
    ·simp (etaStruct := .none) only [push_cast, DrawG, Int.cast_ofNat_Int, seval]
    rintro k hk
    (try (refine xst ?_; try exact xtI))
    refine cond_i (fun h5 => ?_) (fun h5 => ?_)
    ·(try replace h5 := xhh h5)
     have hlt : k < w.troops.length := by omega
     have ok := trpI_ok hw hlt
     have ln := wl3_len w k
     (iterate 2 ((try simp (etaStruct := .none) only [push_cast, DrawG, Int.cast_ofNat_Int, seval, getD_in _ _ _ hlt, trpP]); (try (refine xsu ?_; try exact xtI))))
     refine callB (tleaf_s (trpI w k) ok.1 ok.2) (WkL.refl _) rfl ?_
     (iterate 2 ((try simp (etaStruct := .none) only [push_cast, DrawG, Int.cast_ofNat_Int, seval, getD_in _ _ _ hlt, trpP]); (try (refine xsu ?_; try exact xtI))))
     refine ⟨k + 1, by omega, by omega, To.mk [4] rfl rfl (by decide) ?_ ?_⟩
     ·(iterate 2 ((try simp (etaStruct := .none) only [push_cast, DrawG, Int.cast_ofNat_Int, seval, wl3_s, List.map_append, u64P]); (try (refine xsu ?_; try exact xtI))))
     ·(iterate 2 ((try simp (etaStruct := .none) only [push_cast, DrawG, Int.cast_ofNat_Int, seval, getD_in _ _ _ hlt, trpP]); (try (refine xsu ?_; try exact xtI))))
    ·(try replace h5 := xhh h5)
     obtain rfl : k = w.troops.length := by omega
     have ln := wl3_len w w.troops.length
     (try (refine xst ?_; try exact xtI))
     refine callB (mof_s (wl3 w w.troops.length) (by omega)) (WkL.refl _) rfl ?_
     (try (refine xst ?_; try exact xtI))
     (first | (refine retA rfl (Wk.of ?_); (try simp (etaStruct := .none) only [push_cast, DrawG, Int.cast_ofNat_Int, seval]); first | done | (simp [wmarkV, *]; done) | (simp_all [wmarkV]; done)) | (refine retA rfl ?_; (try simp (etaStruct := .none) only [push_cast, DrawG, Int.cast_ofNat_Int, seval]); (try simp [wmarkV, *]); (try exact wkc)))
end Go.Proofs.YthiddmncjafklaaGreat
namespace Go.Proofs.YthiddmncjafklaaGreat
set_option linter.all false
open Go.RowKit
set_option maxRecDepth 100000
set_option maxHeartbeats 1000000
def ordsP (l : List Ord) : List PV := [.sl 6 (l.map ordP)]
def runW (WR : Cel → List Int) : List (List Ord) → Wld → Wld
 | [], w => w
 | o :: r, w => runW WR r (turnV WR w o)
def runM (WR : Cel → List Int) : List (List Ord) → Wld → List Nat
 | [], w => [wmarkV w]
 | o :: r, w => wmarkV w :: runM WR r (turnV WR w o)
def runE (WR : Cel → List Int) : List (List Ord) → Wld → Int
 | [], _ => 0
 | o :: r, w => if turnE o w ≠ 0 then turnE o w else runE WR r (turnV WR w o)
theorem deedV_f (w : Wld) (d : Ded) : (deedV w d).1.f = w.f := by
 unfold deedV
 repeat' split
 all_goals rfl
theorem deedsA_f (l : List Ded) : ∀ w, (deedsA w l).1.f = w.f := by
 induction l with
 | nil => intro w; rfl
 | cons a r ih => intro w; rw [deedsA, ih, deedV_f]
theorem turnV_f (WR : Cel → List Int) (w : Wld) (o : List Ord) : (turnV WR w o).f = w.f := by
 unfold turnV nowUp tkC; rw [show ({ (deedsA (tkB WR w o) (deedsV o w)).1 with now := (deedsA (tkB WR w o) (deedsV o w)).1.now + 1 } : Wld).f = (deedsA (tkB WR w o) (deedsV o w)).1.f from rfl, deedsA_f]; rfl
theorem runW_f (WR : Cel → List Int) : ∀ (l : List (List Ord)) (w : Wld), (runW WR l w).f = w.f
 | [], _ => rfl
 | o :: r, w => by rw [runW, runW_f WR r, turnV_f]
theorem runW_snoc (WR : Cel → List Int) (o : List Ord) : ∀ (l : List (List Ord)) (w : Wld), runW WR (l ++ [o]) w = turnV WR (runW WR l w) o
 | [], _ => rfl
 | a :: r, w => by rw [List.cons_append, runW, runW_snoc WR o r]; rfl
theorem runM_snoc (WR : Cel → List Int) (o : List Ord) : ∀ (l : List (List Ord)) (w : Wld), runM WR (l ++ [o]) w = runM WR l w ++ [wmarkV (turnV WR (runW WR l w) o)]
 | [], _ => rfl
 | a :: r, w => by rw [List.cons_append, runM, runM_snoc WR o r]; rfl
theorem runE_app (WR : Cel → List Int) (b : List (List Ord)) : ∀ (a : List (List Ord)) (w : Wld), runE WR (a ++ b) w = if runE WR a w ≠ 0 then runE WR a w else runE WR b (runW WR a w)
 | [], w => by simp [runE, runW]
 | o :: r, w => by
  rw [List.cons_append, runE, runE, runE_app WR b r, runW]
  by_cases h : turnE o w ≠ 0
  ·rw [if_pos h, if_pos h, if_pos h]
  ·rw [if_neg h, if_neg h]
theorem runM_len (WR : Cel → List Int) : ∀ (l : List (List Ord)) (w : Wld), (runM WR l w).length = l.length + 1
 | [], _ => rfl
 | o :: r, w => by rw [runM, List.length_cons, runM_len WR r, List.length_cons]
theorem turnE_ok {w : Wld} {l : List Ord} (h : turnE l w = 0) : Right w ∧ w.now < 1000000 := by
 have hs : splitE l w = 0 := by unfold turnE at h; split at h; rename_i h1; exact absurd h h1; rename_i h1; simpa using h1
 have hn : w.now < 1000000 := by unfold turnE at h; rw [if_neg (by simp [hs])] at h; split at h; exact absurd h (by decide); omega
 exact ⟨right_of (splitE_ok hs).2, hn⟩
theorem right_run {WR : Cel → List Int} : ∀ (l : List (List Ord)) {w : Wld}, Right w → (∀ a, FloodIs w.f [a] (WR a)) → runE WR l w = 0 → Right (runW WR l w)
 | [], _, h, _, _ => h
 | o :: r, w, h, hWR, he => by
  rw [runE] at he
  split at he
  ·rename_i h1; exact absurd he h1
  ·rename_i h1
   have h1 : turnE o w = 0 := by simpa using h1
   exact right_run r (right_turn h hWR o (turnE_ok h1).2) (by intro a; rw [turnV_f]; exact hWR a) he
theorem run_step {WR : Cel → List Int} {ts : List (List Ord)} {w : Wld} {k : Nat} (hk : k < ts.length) (h : runE WR (ts.take k) w = 0) : (turnE (ts.getD k default) (runW WR (ts.take k) w) ≠ 0 → runE WR ts w = turnE (ts.getD k default) (runW WR (ts.take k) w)) ∧ (turnE (ts.getD k default) (runW WR (ts.take k) w) = 0 → runE WR (ts.take (k + 1)) w = 0) := by
 have e1 := take_snoc ts k hk
 constructor
 ·intro hn
  have e2 : ts = ts.take k ++ ts.drop k := (List.take_append_drop k ts).symm
  have e3 : ts.drop k = ts.getD k default :: ts.drop (k + 1) := by rw [getD_at _ _ hk]; exact List.drop_eq_getElem_cons hk
  rw [show runE WR ts w = runE WR (ts.take k ++ ts.drop k) w from by rw [← e2], runE_app, if_neg (by simp [h]), e3, runE, if_pos hn]
 ·intro h0
  rw [e1, runE_app, if_neg (fun hn => hn h), runE, if_neg (fun hn => hn h0)]; rfl
theorem struck_nil {w : Wld} (h : Right w) : struckW w [] = w := by
 have e : woundT w [] = id := by funext t; unfold woundT; rw [harm_nil]; simp
 unfold struckW leftV
 rw [e, List.map_id, List.filter_eq_self.2]
 intro t ht
 obtain ⟨i, hi, rfl⟩ := List.mem_iff_getElem.1 ht
 have := (h.trp i hi).life
 rw [getD_at _ _ hi] at this
 simp; omega
abbrev wld0C : List AV := [I .i64 0, I .i64 0, .c (.v (.slice none 0 0)), .c (.v (.slice none 0 0)), .c (.v (.slice none 0 0)), .c (.v (.slice none 0 0)), .c (.v (.slice none 0 0)), I .i64 0, I .i64 0]
theorem trun_k (w : Wld) (ts : List (List Ord)) (WR : Cel → List Int) (hWR : ∀ a, FloodIs w.f [a] (WR a)) (hts : ts.length ≤ 200) (hin : ∀ l ∈ ts, l.length ≤ 9223372036854775807) (hw : Right w) : Spec Tryz.prog 11 [wldA w, .c (.sl 1 (ts.map ordsP))] [] (.tup [wldA (if runE WR ts w = 0 then runW WR ts w else default), .c (.sl 1 ((if runE WR ts w = 0 then runM WR ts w else []).map u64P)), I .i64 (runE WR ts w)]) [] := by
 have e1 : blowsE w [] = 0 := by unfold blowsE; rw [if_neg (by simp [hw.e]), if_neg (by simp)]
 have HK := hstruck_k w [] hw.l (by simp) e1
 rw [e1, show struckR w [] = w from by unfold struckR; rw [if_pos e1, struck_nil hw]] at HK
 obtain ⟨E, hE⟩ : ∃ E, E = runE WR ts w := ⟨_, rfl⟩
 rw [← hE]
 refine spec_am Tryz.func11 rfl rfl mix 64 rfl [.cell 4 28, .tmp 5, .tmp 6] Tryz.results11 (Nat.le_of_ble_eq_true rfl) ?_
 (try (refine xst ?_; try exact xtI))
 refine cond_i (fun h1 => ?_) (fun h1 => ?_)
 ·(try replace h1 := xhh h1)
  omega
 ·(try replace h1 := xhh h1)
  (try (refine xst ?_; try exact xtI))
  refine callP (HK) (by exact ⟨Wk.refl _, Wk.nil _, trivial⟩) ?_
  (try (refine xst ?_; try exact xtI))
  refine cond_i (fun h2 => ?_) (fun h2 => ?_)
  ·(try replace h2 := xhh h2)
   simp at h2
  ·(try replace h2 := xhh h2)
   (try (refine xst ?_; try exact xtI))
   refine caP (tmark_s w hw.l hw.e) ?_
   (try (refine xst ?_; try exact xtI))
   refine loopI (fun k : Nat => ⟨[(37, I .i64 k), (36, I .i64 ts.length), (35, .c (.sl 1 (ts.map ordsP))), (11, .own 2), (4, .ptr 1 0 0), (2, .ptr 0 0 0)], [(0, .blk 28 (wldC (runW WR (ts.take k) w))), (1, .blk 28 wld0C), (2, .row 44 1 ((runM WR (ts.take k) w).map u64P))], 3⟩) (fun k : Nat => k ≤ ts.length ∧ runE WR (ts.take k) w = 0) (fun k : Nat => ts.length - k) (0) (⟨Nat.zero_le _, rfl⟩) (To.mk [0, 1, 2] rfl rfl (by decide) ?_ ?_) ?_
   ·simp (etaStruct := .none) only [push_cast, DrawG, Int.cast_ofNat_Int, seval, List.take_zero, runW, runM, List.map_cons, List.map_nil, u64P]
   ·simp (etaStruct := .none) only [push_cast, DrawG, Int.cast_ofNat_Int, seval]
   rintro k ⟨hk, hn⟩
   (try (refine xst ?_; try exact xtI))
   refine cond_i (fun h3 => ?_) (fun h3 => ?_)
   ·(try replace h3 := xhh h3)
    have hlt : k < ts.length := by omega
    have RK := right_run (ts.take k) hw hWR hn
    have hWk : ∀ a, FloodIs (runW WR (ts.take k) w).f [a] (WR a) := by intro a; rw [runW_f]; exact hWR a
    obtain ⟨st1, st2⟩ := run_step hlt hn
    have T := tturn_s (runW WR (ts.take k) w) (ts.getD k default) WR hWk RK.l (hin _ (getD_mem _ _ hlt))
    (iterate 2 ((try simp (etaStruct := .none) only [push_cast, DrawG, Int.cast_ofNat_Int, seval, getD_in _ _ _ hlt, ordsP]); (try (refine xsu ?_; try exact xtI))))
    refine caP (T) ?_
    (iterate 2 ((try simp (etaStruct := .none) only [push_cast, DrawG, Int.cast_ofNat_Int, seval, getD_in _ _ _ hlt, ordsP]); (try (refine xsu ?_; try exact xtI))))
    refine cond_i (fun h4 => ?_) (fun h4 => ?_)
    ·(try replace h4 := xhh h4)
     have hE2 := hE.trans (st1 h4)
     rw [if_neg (by rw [hE2]; exact h4), if_neg (by rw [hE2]; exact h4), hE2]
     (iterate 2 ((try simp (etaStruct := .none) only [push_cast, DrawG, Int.cast_ofNat_Int, seval, getD_in _ _ _ hlt, ordsP]); (try (refine xsu ?_; try exact xtI))))
     exact xrz rfl
    ·(try replace h4 := xhh h4)
     have e0 : turnE (ts.getD k default) (runW WR (ts.take k) w) = 0 := by simpa using h4
     have hWv : turnW WR (runW WR (ts.take k) w) (ts.getD k default) = turnV WR (runW WR (ts.take k) w) (ts.getD k default) := if_pos e0
     have RV : Right (turnW WR (runW WR (ts.take k) w) (ts.getD k default)) := by rw [hWv]; exact right_turn RK hWk _ (turnE_ok e0).2
     have hW1 : runW WR (ts.take (k + 1)) w = turnW WR (runW WR (ts.take k) w) (ts.getD k default) := by rw [take_snoc ts k hlt, runW_snoc, hWv]
     have hM1 : runM WR (ts.take (k + 1)) w = runM WR (ts.take k) w ++ [wmarkV (turnW WR (runW WR (ts.take k) w) (ts.getD k default))] := by rw [take_snoc ts k hlt, runM_snoc, hWv]
     have hml := runM_len WR (ts.take k) w
     rw [List.length_take] at hml
     (iterate 2 ((try simp (etaStruct := .none) only [push_cast, DrawG, Int.cast_ofNat_Int, seval, getD_in _ _ _ hlt, ordsP]); (try (refine xsu ?_; try exact xtI))))
     refine caP (tmark_s _ RV.l RV.e) ?_
     (iterate 2 ((try simp (etaStruct := .none) only [push_cast, DrawG, Int.cast_ofNat_Int, seval, getD_in _ _ _ hlt, ordsP]); (try (refine xsu ?_; try exact xtI))))
     refine ⟨k + 1, ⟨by omega, st2 e0⟩, by omega, To.mk [0, 1, 4] rfl rfl (by decide) ?_ ?_⟩
     ·(iterate 2 ((try simp (etaStruct := .none) only [push_cast, DrawG, Int.cast_ofNat_Int, seval, hW1, hM1, List.map_append, List.map_cons, List.map_nil, u64P]); (try (refine xsu ?_; try exact xtI))))
     ·(iterate 2 ((try simp (etaStruct := .none) only [push_cast, DrawG, Int.cast_ofNat_Int, seval, getD_in _ _ _ hlt, ordsP]); (try (refine xsu ?_; try exact xtI))))
   ·(try replace h3 := xhh h3)
    obtain rfl : k = ts.length := by omega
    rw [List.take_length] at hn
    have hE0 : E = 0 := hE.trans hn
    rw [if_pos hE0, if_pos hE0, hE0]
    (iterate 2 ((try simp (etaStruct := .none) only [push_cast, DrawG, Int.cast_ofNat_Int, seval, List.take_length]); (try (refine xsu ?_; try exact xtI))))
    exact xrz rfl
end Go.Proofs.YthiddmncjafklaaGreat
namespace Go.Proofs.YthiddmncjafklaaGreat
set_option linter.all false
open Go.RowKit
set_option maxRecDepth 100000
set_option maxHeartbeats 1000000
def runRE (WR : Cel → List Int) (ts : List (List Ord)) (w : Wld) : Int := if 200 < ts.length then 2 else if worldE w ≠ 0 then worldE w else runE WR ts w
def runRW (WR : Cel → List Int) (ts : List (List Ord)) (w : Wld) : Wld := if runRE WR ts w = 0 then runW WR ts w else default
def runRM (WR : Cel → List Int) (ts : List (List Ord)) (w : Wld) : List Nat := if runRE WR ts w = 0 then runM WR ts w else []
theorem trun_l (w : Wld) (ts : List (List Ord)) (h : 200 < ts.length) : Spec Tryz.prog 11 [wldA w, .c (.sl 1 (ts.map ordsP))] [] (.tup [wldA default, .c (.sl 1 (([] : List Nat).map u64P)), I .i64 2]) [] := by
 refine spec_am Tryz.func11 rfl rfl mix 64 rfl [.cell 4 28, .tmp 5, .tmp 6] Tryz.results11 (Nat.le_of_ble_eq_true rfl) ?_
 (try (refine xst ?_; try exact xtI))
 refine cond_i (fun h1 => ?_) (fun h1 => ?_)
 ·(try replace h1 := xhh h1)
  (try (refine xst ?_; try exact xtI))
  exact xrz rfl
 ·(try replace h1 := xhh h1)
  omega
theorem trun_w (w : Wld) (ts : List (List Ord)) (hl : wldL w) (h : ts.length ≤ 200) (hw : worldE w ≠ 0) : Spec Tryz.prog 11 [wldA w, .c (.sl 1 (ts.map ordsP))] [] (.tup [wldA default, .c (.sl 1 (([] : List Nat).map u64P)), I .i64 (worldE w)]) [] := by
 have e1 : blowsE w [] = worldE w := by unfold blowsE; rw [if_pos hw]
 have HK := hstruck_e w [] hl (by simp) (by rw [e1]; exact hw)
 rw [e1] at HK
 refine spec_am Tryz.func11 rfl rfl mix 64 rfl [.cell 4 28, .tmp 5, .tmp 6] Tryz.results11 (Nat.le_of_ble_eq_true rfl) ?_
 (try (refine xst ?_; try exact xtI))
 refine cond_i (fun h1 => ?_) (fun h1 => ?_)
 ·(try replace h1 := xhh h1)
  omega
 ·(try replace h1 := xhh h1)
  (try (refine xst ?_; try exact xtI))
  refine callP (HK) (by exact ⟨Wk.refl _, Wk.nil _, trivial⟩) ?_
  (try (refine xst ?_; try exact xtI))
  refine cond_i (fun h2 => ?_) (fun h2 => ?_)
  ·(try replace h2 := xhh h2)
   (try (refine xst ?_; try exact xtI))
   exact xrz rfl
  ·(try replace h2 := xhh h2)
   exact absurd h2 hw
theorem trun_s (w : Wld) (ts : List (List Ord)) (WR : Cel → List Int) (hWR : ∀ a, FloodIs w.f [a] (WR a)) (hl : wldL w) (hin : ∀ l ∈ ts, l.length ≤ 9223372036854775807) : Spec Tryz.prog 11 [wldA w, .c (.sl 1 (ts.map ordsP))] [] (.tup [wldA (runRW WR ts w), .c (.sl 1 ((runRM WR ts w).map u64P)), I .i64 (runRE WR ts w)]) [] := by
 unfold runRW runRM
 obtain ⟨E, hE⟩ : ∃ E, E = runRE WR ts w := ⟨_, rfl⟩
 rw [← hE]
 unfold runRE at hE
 by_cases h : 200 < ts.length
 ·rw [if_pos h] at hE; subst hE; exact trun_l w ts h
 ·rw [if_neg h] at hE
  by_cases hw : worldE w = 0
  ·rw [if_neg (fun hn => hn hw)] at hE; subst hE; exact trun_k w ts WR hWR (by omega) hin (right_of hw)
  ·rw [if_pos hw] at hE; subst hE; rw [if_neg hw, if_neg hw]; exact trun_w w ts hl (by omega) hw
theorem wldD_l : wldL (default : Wld) := ⟨Nat.zero_le _, Nat.zero_le _, Nat.zero_le _, Nat.zero_le _, Nat.zero_le _⟩
end Go.Proofs.YthiddmncjafklaaGreat
namespace Go.Proofs.YthiddmncjafklaaGreat
set_option linter.all false
open Go.RowKit
set_option maxRecDepth 100000
set_option maxHeartbeats 1000000
def followW (WR : Cel → List Int) : List ByteArray → Wld → Wld
 | [], w => w
 | s :: r, w => if (readV s).2 ≠ 0 ∨ turnE (readV s).1 w ≠ 0 then w else followW WR r (turnV WR w (readV s).1)
def followK (WR : Cel → List Int) : List ByteArray → Wld → Nat
 | [], _ => 0
 | s :: r, w => if (readV s).2 ≠ 0 ∨ turnE (readV s).1 w ≠ 0 then 0 else followK WR r (turnV WR w (readV s).1) + 1
theorem readV_len (s : ByteArray) : (readV s).1.length ≤ 1000 := by
 unfold readV
 have := gaR_len (openR s).1
 repeat' split
 all_goals simp [ordsOf_len]
 omega
theorem followK_le (WR : Cel → List Int) : ∀ (l : List ByteArray) (w : Wld), followK WR l w ≤ l.length
 | [], _ => Nat.le_refl _
 | s :: r, w => by
  unfold followK
  split
  ·exact Nat.zero_le _
  ·have := followK_le WR r (turnV WR w (readV s).1); simp; omega
theorem dropT_at (l : List ByteArray) (k : Nat) (h : k < l.length) : l.drop k = l.getD k default :: l.drop (k + 1) := by
 rw [getD_at _ _ h]; exact List.drop_eq_getElem_cons h
theorem follow_k (w : Wld) (l : List ByteArray) (WR : Cel → List Int) (hWR : ∀ a, FloodIs w.f [a] (WR a)) (hw : Right w) (hll : l.length ≤ 200) (hs : ∀ s ∈ l, s.size ≤ 140737488351232) : Spec Tryz.prog 21 [wldA w, .c (.sl 1 (l.map strP))] [] (.tup [wldA (followW WR l w), I .i64 (followK WR l w), I .i64 0]) [] := by
 have V := trun_s w [] WR hWR hw.l (fun _ h => by simp at h)
 have v0 : runRE WR [] w = 0 := by unfold runRE; rw [if_neg (by simp), if_neg (fun hn => hn hw.e)]; rfl
 rw [v0, show runRW WR [] w = w from if_pos v0] at V
 refine spec_am Tryz.func21 rfl rfl mix 61 rfl [.cell 4 28, .tmp 5, .tmp 6] Tryz.results21 (Nat.le_of_ble_eq_true rfl) ?_
 (try (refine xst ?_; try exact xtI))
 refine cond_i (fun h1 => ?_) (fun h1 => ?_)
 ·(try replace h1 := xhh h1)
  omega
 ·(try replace h1 := xhh h1)
  (try (refine xst ?_; try exact xtI))
  refine callP (V) (by exact ⟨Wk.refl _, Wk.nil _, trivial⟩) ?_
  (try (refine xst ?_; try exact xtI))
  refine cond_i (fun h2 => ?_) (fun h2 => ?_)
  ·(try replace h2 := xhh h2)
   simp at h2
  ·(try replace h2 := xhh h2)
   (try (refine xst ?_; try exact xtI))
   refine loopI (fun x : Nat × Wld => ⟨[(31, I .i64 x.1), (30, I .i64 l.length), (29, .c (.sl 1 (l.map strP))), (4, .ptr 1 0 0), (2, .ptr 0 0 0), (1, .c (.sl 1 (l.map strP)))], [(0, .blk 28 (wldC x.2)), (1, .blk 28 wld0C)], 2⟩) (fun x : Nat × Wld => x.1 ≤ l.length ∧ Right x.2 ∧ x.2.f = w.f ∧ followW WR l w = followW WR (l.drop x.1) x.2 ∧ followK WR l w = x.1 + followK WR (l.drop x.1) x.2) (fun x : Nat × Wld => l.length - x.1) ((0, w)) (⟨Nat.zero_le _, hw, rfl, rfl, by simp⟩) (To.mk [0, 1] rfl rfl (by decide) ?_ ?_) ?_
   ·simp (etaStruct := .none) only [push_cast, DrawG, Int.cast_ofNat_Int, seval]
   ·simp (etaStruct := .none) only [push_cast, DrawG, Int.cast_ofNat_Int, seval]
   rintro ⟨k, y⟩ ⟨hk, hR, hf, hW, hK⟩
   simp only at hk hR hf hW hK
   (try (refine xst ?_; try exact xtI))
   refine cond_i (fun h3 => ?_) (fun h3 => ?_)
   ·(try replace h3 := xhh h3)
    have hlt : k < l.length := by omega
    rw [dropT_at l k hlt] at hW hK
    have hsz := hs (l.getD k default) (getD_mem _ _ hlt)
    generalize hsk : l.getD k default = s at *
    have RD := read_s s hsz
    have hrl := readV_len s
    have hWk : ∀ a, FloodIs y.f [a] (WR a) := by intro a; rw [hf]; exact hWR a
    have TT := tturn_s y (readV s).1 WR hWk hR.l (by omega)
    rw [followW] at hW
    rw [followK] at hK
    (iterate 2 ((try simp (etaStruct := .none) only [push_cast, DrawG, Int.cast_ofNat_Int, seval, getD_in _ _ _ hlt, hsk, strP]); (try (refine xsu ?_; try exact xtI))))
    refine caP (RD) ?_
    (iterate 2 ((try simp (etaStruct := .none) only [push_cast, DrawG, Int.cast_ofNat_Int, seval, getD_in _ _ _ hlt, hsk, strP]); (try (refine xsu ?_; try exact xtI))))
    refine cond_i (fun h4 => ?_) (fun h4 => ?_)
    ·(try replace h4 := xhh h4)
     rw [if_pos (.inl h4)] at hW hK
     rw [hW, hK]
     clear hW hK hf hWk
     (iterate 2 ((try simp (etaStruct := .none) only [push_cast, DrawG, Int.cast_ofNat_Int, seval, getD_in _ _ _ hlt, hsk, strP]); (try (refine xsu ?_; try exact xtI))))
     exact xrz rfl
    ·(try replace h4 := xhh h4)
     (iterate 2 ((try simp (etaStruct := .none) only [push_cast, DrawG, Int.cast_ofNat_Int, seval, getD_in _ _ _ hlt, hsk, strP]); (try (refine xsu ?_; try exact xtI))))
     refine caP (TT) ?_
     (iterate 2 ((try simp (etaStruct := .none) only [push_cast, DrawG, Int.cast_ofNat_Int, seval, getD_in _ _ _ hlt, hsk, strP]); (try (refine xsu ?_; try exact xtI))))
     refine cond_i (fun h5 => ?_) (fun h5 => ?_)
     ·(try replace h5 := xhh h5)
      rw [if_pos (.inr h5)] at hW hK
      rw [hW, hK]
      clear hW hK hf hWk
      (iterate 2 ((try simp (etaStruct := .none) only [push_cast, DrawG, Int.cast_ofNat_Int, seval, getD_in _ _ _ hlt, hsk, strP]); (try (refine xsu ?_; try exact xtI))))
      exact xrz rfl
     ·(try replace h5 := xhh h5)
      have e0 : turnE (readV s).1 y = 0 := by simpa using h5
      have hTW : turnW WR y (readV s).1 = turnV WR y (readV s).1 := if_pos e0
      have hRT := right_turn hR hWk (readV s).1 (turnE_ok e0).2
      rw [if_neg (fun hn => hn.elim (fun hh => hh h4) fun hh => hh e0)] at hW hK
      (iterate 2 ((try simp (etaStruct := .none) only [push_cast, DrawG, Int.cast_ofNat_Int, seval, getD_in _ _ _ hlt, hsk, strP]); (try (refine xsu ?_; try exact xtI))))
      refine ⟨(k + 1, turnW WR y (readV s).1), ⟨by simp only; omega, by rw [hTW]; exact hRT, by rw [hTW, turnV_f]; exact hf, by rw [hTW]; exact hW, by rw [hTW, hK]; simp only; omega⟩, by simp only; omega, To.mk [0, 1] rfl rfl (by decide) ?_ ?_⟩
      ·(iterate 2 ((try simp (etaStruct := .none) only [push_cast, DrawG, Int.cast_ofNat_Int, seval, getD_in _ _ _ hlt, hsk, strP]); (try (refine xsu ?_; try exact xtI))))
      ·(iterate 2 ((try simp (etaStruct := .none) only [push_cast, DrawG, Int.cast_ofNat_Int, seval, getD_in _ _ _ hlt, hsk, strP]); (try (refine xsu ?_; try exact xtI))))
   ·(try replace h3 := xhh h3)
    obtain rfl : k = l.length := by omega
    rw [List.drop_length] at hW hK
    rw [show followW WR l w = y from hW, show followK WR l w = l.length from hK]
    clear hW hK hf
    (try (refine xst ?_; try exact xtI))
    exact xrz rfl
theorem rfollow_s (WR : Cel → List Int) : ∀ (l : List ByteArray) (w : Wld) (hWR : ∀ a, FloodIs w.f [a] (WR a)) (hw : Right w) (hll : l.length ≤ 200) (hs : ∀ s ∈ l, s.size ≤ 140737488351232), Spec Tryz.prog 23 [wldA w, .c (.sl 1 (l.map strP))] [] (.tup [wldA (followW WR l w), I .i64 (followK WR l w)]) []
 | [], w, hWR, hw, hll, hs => by
  rw [followW, followK]
  refine spec_am Tryz.func23 rfl rfl mix 46 rfl [.cell 4 28, .tmp 5] Tryz.results23 (Nat.le_of_ble_eq_true rfl) ?_
  (try (refine xst ?_; try exact xtI))
  refine cond_i (fun h1 => ?_) (fun h1 => ?_)
  ·(try replace h1 := xhh h1)
   (try (refine xst ?_; try exact xtI))
   exact xrz rfl
  ·(try replace h1 := xhh h1)
   simp at h1
 | s :: r, w, hWR, hw, hll, hs => by
  have RD := rtext_s s (hs s (by simp))
  have hrl := readV_len s
  have TT := rturn_s w (readV s).1 WR hWR hw.l (by omega)
  have IH := fun e0 : turnE (readV s).1 w = 0 => rfollow_s WR r (turnV WR w (readV s).1) (by intro a; rw [turnV_f]; exact hWR a) (right_turn hw hWR (readV s).1 (turnE_ok e0).2) (by simp at hll; omega) (fun x hx => hs x (by simp [hx]))
  have hkl := followK_le WR r (turnV WR w (readV s).1)
  simp only [List.length_cons] at hll
  have ht : List.take (r.length + 1 - 1) (List.drop 1 (List.map strP (s :: r))) = r.map strP := by
   rw [List.map_cons, List.drop_succ_cons, List.drop_zero, Nat.add_sub_cancel, List.take_of_length_le (by simp)]
  rw [followW, followK]
  refine spec_am Tryz.func23 rfl rfl mix 46 rfl [.cell 4 28, .tmp 5] Tryz.results23 (Nat.le_of_ble_eq_true rfl) ?_
  (try (refine xst ?_; try exact xtI))
  refine cond_i (fun h1 => ?_) (fun h1 => ?_)
  ·(try replace h1 := xhh h1)
   first | omega | (simp at h1; done) | (simp at h1; omega)
  ·(try replace h1 := xhh h1)
   (iterate 2 ((try simp (etaStruct := .none) only [push_cast, DrawG, Int.cast_ofNat_Int, seval, List.map_cons, strP]); (try (refine xsu ?_; try exact xtI))))
   refine caP (RD) ?_
   (iterate 2 ((try simp (etaStruct := .none) only [push_cast, DrawG, Int.cast_ofNat_Int, seval, List.map_cons, strP]); (try (refine xsu ?_; try exact xtI))))
   refine cond_i (fun h2 => ?_) (fun h2 => ?_)
   ·(try replace h2 := xhh h2)
    rw [if_pos (.inl h2), if_pos (.inl h2)]
    (iterate 2 ((try simp (etaStruct := .none) only [push_cast, DrawG, Int.cast_ofNat_Int, seval, List.map_cons, strP]); (try (refine xsu ?_; try exact xtI))))
    exact xrz rfl
   ·(try replace h2 := xhh h2)
    (iterate 2 ((try simp (etaStruct := .none) only [push_cast, DrawG, Int.cast_ofNat_Int, seval, List.map_cons, strP]); (try (refine xsu ?_; try exact xtI))))
    refine caP (TT) ?_
    (iterate 2 ((try simp (etaStruct := .none) only [push_cast, DrawG, Int.cast_ofNat_Int, seval, List.map_cons, strP]); (try (refine xsu ?_; try exact xtI))))
    refine cond_i (fun h3 => ?_) (fun h3 => ?_)
    ·(try replace h3 := xhh h3)
     rw [if_pos (.inr h3), if_pos (.inr h3)]
     (iterate 2 ((try simp (etaStruct := .none) only [push_cast, DrawG, Int.cast_ofNat_Int, seval, List.map_cons, strP]); (try (refine xsu ?_; try exact xtI))))
     exact xrz rfl
    ·(try replace h3 := xhh h3)
     have e0 : turnE (readV s).1 w = 0 := by simpa using h3
     have hTW : turnW WR w (readV s).1 = turnV WR w (readV s).1 := if_pos e0
     rw [if_neg (fun hn => hn.elim (fun hh => hh h2) fun hh => hh e0), if_neg (fun hn => hn.elim (fun hh => hh h2) fun hh => hh e0)]
     have IH0 := IH e0
     (iterate 2 ((try simp (etaStruct := .none) only [push_cast, DrawG, Int.cast_ofNat_Int, seval, List.map_cons, strP, hTW, List.drop_succ_cons, List.drop_zero]); (try (refine xsu ?_; try exact xtI))))
     refine caP (IH0) ?_
     (iterate 2 ((try simp (etaStruct := .none) only [push_cast, DrawG, Int.cast_ofNat_Int, seval, List.map_cons, strP, hTW, List.drop_succ_cons, List.drop_zero]); (try (refine xsu ?_; try exact xtI))))
     (try (refine ⟨by kernel_rfl, ?_⟩))
     (iterate 2 ((try simp (etaStruct := .none) only [push_cast, DrawG, Int.cast_ofNat_Int, seval, List.map_cons, strP, hTW, List.drop_succ_cons, List.drop_zero]); (try (refine xsu ?_; try exact xtI))))
     exact xrz rfl
end Go.Proofs.YthiddmncjafklaaGreat
namespace Go.Proofs.YthiddmncjafklaaGreat
set_option linter.all false
open Go.RowKit Go.ChangeShapes Go.WideShapes Go.ChangeAt
def RelCs (w : World) (ps : List PV) (cs : List Value) : Prop := ∀ (j : Nat) p u, ps[j]? = some p → cs[j]? = some u → RelP w (· < w.heap.size) p u
theorem RelCs.nil {w : World} : RelCs w [] [] := fun j p u h => by simp at h
theorem RelCs.cons {w : World} {p : PV} {u : Value} {ps : List PV} {cs : List Value} (h : RelP w (· < w.heap.size) p u) (h' : RelCs w ps cs) : RelCs w (p :: ps) (u :: cs) := by
 intro j q v h1 h2
 cases j with
 | zero => simp at h1 h2; subst h1 h2; exact h
 | succ j => exact h' j q v (by simpa using h1) (by simpa using h2)
theorem RelCs.append {w : World} : ∀ {ps qs : List PV} {cs ds : List Value}, ps.length = cs.length → RelCs w ps cs → RelCs w qs ds → RelCs w (ps ++ qs) (cs ++ ds)
 | [], _, [], _, _, _, h => h
 | [], _, _ :: _, _, hl, _, _ => by simp at hl
 | _ :: _, _, [], _, hl, _, _ => by simp at hl
 | p :: ps, qs, c :: cs, ds, hl, h, h' => by
  refine RelCs.cons (h 0 p c rfl rfl) (RelCs.append (by simpa using hl) (fun j q v h1 h2 => h (j + 1) q v (by simpa using h1) (by simpa using h2)) h')
def OpA (P : Program) (T sz : Nat) (w : World) {α : Type} (pv : α → List PV) (ok : α → Prop) : Prop :=
 ∃ (β : Type) (enc : β → List Value) (okb : β → Prop) (f : β → α), Opens P T sz w enc okb ∧ ∀ y, okb y → ok (f y) ∧ (pv (f y)).length = sz ∧ (enc y).length = sz ∧ RelCs w (pv (f y)) (enc y)
section
variable {P : Program} {T : Nat} {w : World}
theorem OpA.i64 (h : P.underlying T = some (.int .i64)) : OpA P T 1 w i64P In64 :=
 ⟨_, _, _, id, Opens.i64 h, fun y hy => ⟨hy, rfl, rfl, .cons (relP_v rfl) .nil⟩⟩
theorem OpA.u64 (h : P.underlying T = some (.int .u64)) : OpA P T 1 w u64P (fun n => n < 18446744073709551616) :=
 ⟨_, _, _, id, Opens.u64 h, fun y hy => ⟨hy, rfl, rfl, .cons (relP_v rfl) .nil⟩⟩
def u32P (n : Nat) : List PV := [.v (.int .u32 n)]
theorem OpA.u32 (h : P.underlying T = some (.int .u32)) : OpA P T 1 w u32P (fun n => n < 4294967296) :=
 ⟨_, _, _, id, Opens.u32 h, fun y hy => ⟨hy, rfl, rfl, .cons (relP_v rfl) .nil⟩⟩
theorem OpA.bool (h : P.underlying T = some .bool) : OpA P T 1 w boolP (fun _ => True) :=
 ⟨_, _, _, id, Opens.bool h, fun y hy => ⟨hy, rfl, rfl, .cons (relP_v rfl) .nil⟩⟩
theorem OpA.str (h : P.underlying T = some .string) : OpA P T 1 w strP (fun s => s.size ≤ 140737488351232) :=
 ⟨_, _, _, id, Opens.str h, fun y hy => ⟨hy, rfl, rfl, .cons (relP_v rfl) .nil⟩⟩
theorem OpA.map {sz : Nat} {α β : Type} {pv : α → List PV} {ok : α → Prop} {pv' : β → List PV} {ok' : β → Prop} (h : OpA P T sz w pv ok) (f : α → β) (hf : ∀ x, pv' (f x) = pv x) (hok : ∀ x, ok x → ok' (f x)) : OpA P T sz w pv' ok' := by
 obtain ⟨γ, enc, okb, g, h1, h2⟩ := h
 exact ⟨γ, enc, okb, fun y => f (g y), h1, fun y hy => by obtain ⟨a, b, c, d⟩ := h2 y hy; exact ⟨hok _ a, by rw [hf]; exact b, c, by rw [hf]; exact d⟩⟩
theorem OpA.slice {E sz bts : Nat} {α : Type} {pv : α → List PV} {ok : α → Prop} (hT : P.underlying T = some (.slice E)) (hc : P.cellsOf E = sz) (hsz : 0 < sz) (hby : P.bytesOf E = bts) (hE : OpA P E sz w pv ok) :
 OpA P T 1 w (fun xs : List α => [.sl sz (xs.map pv)]) (fun xs => (∀ x ∈ xs, ok x) ∧ xs.length * bts ≤ 140737488351232 ∧ xs.length ≤ 9223372036854775807) := by
 obtain ⟨γ, enc, okb, g, h1, h2⟩ := hE
 refine ⟨_, _, _, fun s => s.xs.map g, Opens.slice hT hc hsz hby h1, fun s hs => ⟨⟨?_, ?_, ?_⟩, rfl, rfl, ?_⟩⟩
 ·intro x hx
  obtain ⟨y, hy, rfl⟩ := List.mem_map.1 hx
  exact (h2 y (hs.each y hy).1).1
 ·have := hs.reach
  have h3 : s.xs.length * bts ≤ s.c * bts := Nat.mul_le_mul_right _ hs.cap
  simp only [List.length_map]; omega
 ·have h3 := hs.cap; have h4 := hs.max; unfold maxLen at h4; simp only [List.length_map]; omega
 ·refine .cons ?_ .nil
  have := rel_sl (pv := fun y => pv (g y)) hs fun y hy ho => by
   obtain ⟨_, a, b, d⟩ := h2 y ho
   exact ⟨a, d⟩
  simpa [List.map_map, Function.comp_def] using this
def OpAF (P : Program) (w : World) (fs : List Field) (o sz : Nat) {α : Type} (pv : α → List PV) (ok : α → Prop) : Prop :=
 ∃ (β : Type) (enc : β → List Value) (okb : β → Prop) (f : β → α), OpensF P w fs o sz enc okb ∧ ∀ y, okb y → ok (f y) ∧ (pv (f y)).length = sz ∧ (enc y).length = sz ∧ RelCs w (pv (f y)) (enc y)
theorem OpAF.nil {o : Nat} : OpAF P w [] o 0 (fun _ : Unit => []) (fun _ => True) :=
 ⟨_, _, _, id, OpensF.nil, fun y hy => ⟨trivial, rfl, rfl, .nil⟩⟩
theorem OpAF.cons {f : Field} {fs : List Field} {o n sz : Nat} {α β : Type} {pv : α → List PV} {ok : α → Prop} {pv' : β → List PV} {ok' : β → Prop}
 (ho : f.offset = o) (hn : P.cellsOf f.type = n) (h : OpA P f.type n w pv ok) (h' : OpAF P w fs (o + n) sz pv' ok') :
 OpAF P w (f :: fs) o (n + sz) (fun x : α × β => pv x.1 ++ pv' x.2) (fun x => ok x.1 ∧ ok' x.2) := by
 obtain ⟨γ, enc, okb, g, h1, h2⟩ := h
 obtain ⟨γ', enc', okb', g', h1', h2'⟩ := h'
 refine ⟨_, _, _, fun y => (g y.1, g' y.2), OpensF.cons ho hn h1 h1', fun y hy => ?_⟩
 obtain ⟨a, b, c, d⟩ := h2 y.1 hy.1
 obtain ⟨a', b', c', d'⟩ := h2' y.2 hy.2
 exact ⟨⟨a, a'⟩, by simp [b, b'], by simp [c, c'], .append (by rw [b, c]) d d'⟩
theorem OpA.struct {sz : Nat} {fs : Array Field} {α : Type} {pv : α → List PV} {ok : α → Prop} (hT : P.underlying T = some (.struct fs)) (hc : P.cellsOf T = sz) (h : OpAF P w fs.toList 0 sz pv ok) : OpA P T sz w pv ok := by
 obtain ⟨γ, enc, okb, g, h1, h2⟩ := h
 exact ⟨γ, enc, okb, g, Opens.struct hT hc h1, h2⟩
theorem OpA.arg {sz : Nat} {α : Type} {pv : α → List PV} {ok : α → Prop} (h : OpA P T sz w pv ok) {H : Type} {eH : TypeId × Value → H} {v : Value} {d : DataW H} {p : List MemPlace}
 (hT : DataW.Trod eH P w 0 (fun _ => true) true T v d p) {ts : List TypeId} {ds : List (DataW H)} (hz : (DataW.weightsEach P ts ds).all (· ≤ reachBytes) = true) (j : Nat) (h1 : ts[j]? = some T) (h2 : ds[j]? = some d) : ∃ x : α, ok x ∧ (pv x).length = v.cells.toList.length ∧ RelCs w (pv x) v.cells.toList := by
 obtain ⟨γ, enc, okb, g, k1, k2⟩ := h
 obtain ⟨y, hy, ho⟩ := Opens.arg k1 hT hz j h1 h2
 obtain ⟨a, b, c, e⟩ := k2 y ho
 exact ⟨g y, a, by rw [hy, b, c], by rw [hy]; exact e⟩
theorem rel_one {p : PV} {v : Value} (hv : v.cells = #[v]) (hr : RelCs w [p] v.cells.toList) : RelA (· < 0) w (· < w.heap.size) (fun _ => none) (.c p) v :=
 relA_c (hr 0 p v rfl (by rw [hv]; rfl))
theorem relL_of_cs {U : Nat → Prop} {β : Nat → Option Bind} : ∀ {ps : List PV} {cs : List Value}, ps.length = cs.length → RelCs w ps cs → RelL U w (· < w.heap.size) β (ps.map .c) cs
 | [], [], _, _ => relL_nil
 | [], _ :: _, h, _ => by simp at h
 | _ :: _, [], h, _ => by simp at h
 | p :: ps, c :: cs, h, hr => by
  rw [List.map_cons]
  exact relL_cons (relA_c (hr 0 p c rfl rfl)) (relL_of_cs (by simpa using h) fun j q v h1 h2 => hr (j + 1) q v (by simpa using h1) (by simpa using h2))
theorem rel_agg {ps : List PV} {v : Value} {cs : List Value} (hv : v = .agg cs.toArray) (hl : ps.length = v.cells.toList.length) (hr : RelCs w ps v.cells.toList) : RelA (· < 0) w (· < w.heap.size) (fun _ => none) (.agg (ps.map .c)) v := by
 subst hv
 have e : (Value.agg cs.toArray).cells.toList = cs := rfl
 rw [e] at hl hr
 refine relA_agg (relL_of_cs hl hr) fun x hx => ?_
 obtain ⟨j, hj, rfl⟩ := List.getElem_of_mem hx
 exact (hr j ps[j] cs[j] (by simp) (by simp)).one
theorem one_slice {base e : Nat} {v : Value} (ht : P.underlying T = some (.slice e)) (h : Value.okWide P w .any base T v) : v.cells = #[v] := by obtain ⟨a, l, c, rfl⟩ := okWide_slice ht h; rfl
end
end Go.Proofs.YthiddmncjafklaaGreat
