/- Package pack: PutAll; the reference's PackedAll. -/
import Derived.Test.YtemogefcbemjfaaPackU
import Derived.Test.YtemogefcbemjfaaBld
import Derived.Test.YtemogefcbemjfaaShelf
namespace Go.Proofs.Ytemogefcbemjfaa
open Go.RowKit
def paN (n : Int) : List UInt8 := packB (foldN n)
def paK (xs : List Int) (k : Nat) : List UInt8 := packB xs.length ++ (xs.take k).flatMap paN
def paR (xs : List Int) : ByteArray × Int := if 1000 < xs.length then (⟨#[]⟩, 2) else (⟨(paK xs xs.length).toArray⟩, 0)
theorem packB_len (n : Nat) : (packB n).length ≤ 10 := (packF_len 9 n).2
theorem paK_len (xs : List Int) (k : Nat) : (paK xs k).length ≤ 10 + 10 * k := by
  unfold paK
  rw [List.length_append]
  have h1 := packB_len xs.length
  have h2 : ∀ l : List Int, (l.flatMap paN).length ≤ 10 * l.length := by
    intro l
    induction l with
    | nil => simp
    | cons x l ih =>
      have := packB_len (foldN x)
      have e : paN x = packB (foldN x) := rfl
      rw [List.flatMap_cons, List.length_append, List.length_cons, e]; omega
  have h3 := h2 (xs.take k)
  have h4 : (xs.take k).length ≤ k := List.length_take_le _ _
  omega
theorem paK_succ (xs : List Int) (k : Nat) (h : k < xs.length) : paK xs (k + 1) = paK xs k ++ packB (foldN xs[k]) := by
  unfold paK
  rw [take_snoc' xs k h, List.flatMap_append, List.append_assoc]; simp [paN]
theorem bs_append (l k : List UInt8) : (⟨l.toArray⟩ : ByteArray) ++ ⟨k.toArray⟩ = ⟨(l ++ k).toArray⟩ := by
  apply ByteArray.ext; simp
theorem bs_size (l : List UInt8) : (⟨l.toArray⟩ : ByteArray).size = l.length := by show l.toArray.size = _; simp
set_option maxHeartbeats 2000000 in
set_option maxRecDepth 20000 in
theorem packedAll_any (a : Option Addr) (c B : Nat) (xs : List Int) (w : World) (hE : Els w B a 1 ei64 xs) (hx : ∀ x ∈ xs, I64' x) (hl : xs.length ≤ 140737488351232) (hB : B ≤ w.heap.size) :
    Calls Try.prog 64 #[.slice a xs.length c] w fun e w' => e = .returned (.tuple #[.string (paR xs).1, .int .i64 (paR xs).2]) ∧ Below w.heap.size w w' := by
  have HE := PLift.up hE
  have HX := PLift.up hx
  clear hE hx
  by_cases hn : 1000 < xs.length
  · rw [show paR xs = (⟨#[]⟩, 2) from if_pos hn]
    go_enter Try.func64, Try.ntmps64
    go_wp2_with fail
    go_returns
    exact ⟨rfl, Below.refl _ _⟩
  · rw [show paR xs = (⟨(paK xs xs.length).toArray⟩, 0) from if_neg hn]
    go_enter Try.func64, Try.ntmps64
    go_wp2_with fail
    refine (packedS_any xs.length _ (by omega)).mono ?_
    rintro e w1 ⟨rfl, hb1⟩
    have HB1 := PLift.up hb1
    clear hb1
    have hp0 : packS xs.length = ⟨(paK xs 0).toArray⟩ := by simp [paK, packS]
    rw [hp0]
    clear hp0
    go_wp2_with fail
    go_loopw [4, 16] (fun ov iv wr => ∃ (k : Nat) (T : ByteArray), k ≤ xs.length ∧ iv = .int .i64 k ∧ ov = .string T ∧ T.size ≤ 10 + 10 * k ∧ Hid (T = ⟨(paK xs k).toArray⟩ ∧ Below w.heap.size w wr)) (fun _ iv _ => xs.length - (intOf iv).toNat)
    case atStart => exact ⟨0, _, by omega, rfl, rfl, by rw [bs_size]; exact paK_len xs 0, rfl, HB1.down⟩
    case round =>
      obtain ⟨k, T, hk, rfl, rfl, hT, hI⟩ := hrel
      have hBw := hI.out.2.size
      by_cases hlt : k < xs.length
      · obtain ⟨b, o, rfl, hb, hc⟩ := (HE.down.below hI.out.2 hB).i64 k hlt
        have hxk := HX.down xs[k] (List.getElem_mem hlt)
        have hs := paK_succ xs k hlt
        generalize xs[k] = x at *
        have hf := foldN_lt x hxk
        have hps := packS_size (foldN x)
        have HS : PLift (T ++ packS (foldN x) = ⟨(paK xs (k + 1)).toArray⟩) := PLift.up (by rw [hI.out.1, hs]; exact bs_append _ _)
        have F := PLift.up (folded_any x hxk)
        have Q := PLift.up (fun w => packedS_any (foldN x) w hf)
        generalize foldN x = y at *
        generalize packS y = Y at *
        have HI := PLift.up hI.out.2
        clear hI hs hxk
        go_wp2_with fail
        refine (F.down _).mono ?_
        rintro e w2 ⟨rfl, rfl⟩
        go_wp2_with fail
        refine (Q.down _).mono ?_
        rintro e w2 ⟨rfl, hb2⟩
        have HB2 := PLift.up (HI.down.trans (hb2.mono hBw))
        clear hb2
        go_wp2_with fail
        go_roundw
        case rel => exact ⟨k + 1, _, by omega, by go_num, rfl, by rw [ByteArray.size_append]; omega, HS.down, HB2.down⟩
        case measure => simp [intOf]; omega
      · obtain rfl : k = xs.length := by omega
        have HI := PLift.up hI.out
        clear hI
        go_wp2_with fail
        go_returns
        refine ⟨?_, HI.down.2⟩
        rw [← HI.down.1]; rfl
set_option maxHeartbeats 2000000 in
set_option maxRecDepth 20000 in
theorem putAll_any (a : Option Addr) (c B : Nat) (xs : List Int) (w : World) (hE : Els w B a 1 ei64 xs) (hx : ∀ x ∈ xs, I64' x) (hl : xs.length ≤ 140737488351232) (hB : B ≤ w.heap.size) :
    Calls Try.prog 63 #[.slice a xs.length c] w fun e w' => e = .returned (.tuple #[.string (paR xs).1, .int .i64 (paR xs).2]) ∧ Below w.heap.size w w' := by
  have HE := PLift.up hE
  have HX := PLift.up hx
  clear hE hx
  by_cases hn : 1000 < xs.length
  · rw [show paR xs = (⟨#[]⟩, 2) from if_pos hn]
    go_enter Try.func63, Try.ntmps63
    go_wp2_with fail
    go_returns
    exact ⟨rfl, Below.refl _ _⟩
  · rw [show paR xs = (⟨(paK xs xs.length).toArray⟩, 0) from if_neg hn]
    go_enter Try.func63, Try.ntmps63
    go_wp2_with fail
    refine (put_any xs.length (by omega) _).mono ?_
    rintro e w1 ⟨rfl, hb1⟩
    have BL : PLift (Lib.IsBuilder 123 5 w.heap.size w.heap.size [] w1) := PLift.up (bld_keep (Lib.fresh_isBuilder 123 5 w) hb1)
    have HB1 : PLift (Below w.heap.size w w1) := PLift.up ((below_lit w _).trans (hb1.mono (by simp)))
    have hs1 := HB1.down.size
    clear hb1
    have hp0 : packS xs.length = ⟨(paK xs 0).toArray⟩ := by simp [paK, packS]
    rw [hp0]
    clear hp0
    go_wp2_with fail
    refine (bld_write w.heap.size w.heap.size [] _ w1 BL.down (by rw [bs_size]; have := paK_len xs 0; simp; omega) hs1).mono ?_
    rintro e w2 ⟨rfl, hw2, hb2⟩
    have BL2 : PLift (Lib.IsBuilder 123 5 w.heap.size w.heap.size (Lib.byteCells (paK xs 0)) w2) := PLift.up (.inr hw2)
    have HB2 := PLift.up (HB1.down.trans hb2)
    clear hw2 hb2 BL HB1 hs1
    go_wp2_with fail
    go_loopw [17] (fun iv wr => ∃ (k : Nat), k ≤ xs.length ∧ iv = .int .i64 k ∧ Hid (Lib.IsBuilder 123 5 w.heap.size w.heap.size (Lib.byteCells (paK xs k)) wr ∧ Below w.heap.size w wr)) (fun iv _ => xs.length - (intOf iv).toNat)
    case atStart => exact ⟨0, by omega, rfl, BL2.down, HB2.down⟩
    case round =>
      obtain ⟨k, hk, rfl, hI⟩ := hrel
      have hBw := hI.out.2.size
      by_cases hlt : k < xs.length
      · obtain ⟨b, o, rfl, hb, hc⟩ := (HE.down.below hI.out.2 hB).i64 k hlt
        have hxk := HX.down xs[k] (List.getElem_mem hlt)
        have hs := paK_succ xs k hlt
        have hkl := paK_len xs k
        generalize xs[k] = x at *
        have hf := foldN_lt x hxk
        have hps := packS_size (foldN x)
        have F := PLift.up (fold_any x hxk)
        have Q := PLift.up (fun w => put_any (foldN x) hf w)
        have HS : PLift (Lib.byteCells (paK xs k) ++ Lib.strCells (packS (foldN x)) = Lib.byteCells (paK xs (k + 1))) := PLift.up (by rw [hs]; simp [Lib.byteCells, Lib.strCells, packS])
        generalize foldN x = y at *
        generalize packS y = Y at *
        have HI := PLift.up hI.out
        clear hI hs hxk
        go_wp2_with fail
        refine (F.down _).mono ?_
        rintro e w2 ⟨rfl, rfl⟩
        go_wp2_with fail
        refine (Q.down _).mono ?_
        rintro e w2 ⟨rfl, hb2⟩
        have BL3 := PLift.up (bld_keep HI.down.1 hb2)
        have HB3 := PLift.up (HI.down.2.trans (hb2.mono hBw))
        have hBw3 := HB3.down.size
        clear hb2
        go_wp2_with fail
        refine (bld_write w.heap.size w.heap.size _ _ w2 BL3.down (by simp [Lib.byteCells]; omega) hBw3).mono ?_
        rintro e w3 ⟨rfl, hw3, hb3⟩
        have HB4 := PLift.up (HB3.down.trans hb3)
        have HW3 := PLift.up hw3
        clear hw3 hb3
        go_wp2_with fail
        go_roundw
        case rel => exact ⟨k + 1, by omega, by go_num, by rw [← HS.down]; exact .inr HW3.down, HB4.down⟩
        case measure => simp [intOf]; omega
      · obtain rfl : k = xs.length := by omega
        have HI := PLift.up hI.out
        clear hI
        go_wp2_with fail
        refine (Try.Builder_String_any w.heap.size w.heap.size (paK xs xs.length) wr HI.down.1 hBw).mono ?_
        rintro e w2 ⟨rfl, hb2⟩
        have HB2 := PLift.up (HI.down.2.trans hb2)
        clear hb2
        go_wp2_with fail
        go_returns
        exact ⟨rfl, HB2.down⟩
end Go.Proofs.Ytemogefcbemjfaa
