/- Lemmas for the proof of troopChecks.proved. -/
import Derived.Test.YtibknlfadoeglaaTroopChecksM4
import Derived.Lib.Varint
import Derived.Lib.VarintBits
import Derived.Deep.RegionHeld3
import Derived.Deep.QuietTactic
import Derived.BigQuiet
import Derived.Shelf.Strings.Builder1
import Derived.Laws.Externs
import Derived.Laws.IdiomCopy
namespace Go.Proofs.Ytibknlfadoeglaa
set_option linter.all false
open Go.RowKit
set_option maxHeartbeats 1000000 in
set_option maxRecDepth 20000 in
theorem packed_any (f : Nat) : f ≤ 9 → ∀ (n : Nat) (w : World), n < 18446744073709551616 → n < 128 ^ (f + 1) →
    Calls Try.prog 133 #[.int .u64 n] w fun e w' => e = .returned (.string ⟨(packF f n).toArray⟩) ∧ Below w.heap.size w w' := by
  induction f with
  | zero =>
    intro _ n w h hf
    have h1 : n < 128 := by simpa using hf
    clear hf
    rw [packF_small 0 n h1]
    go_enter Try.func133, Try.ntmps133
    go_wp2_with fail
    refine (bytes_any _ _ (w.heap.size + 1) [n] _ (by simp) ?_ (by simp) (by simp; omega)).mono ?_
    · refine .inr ⟨w.heap.size, 0, rfl, by omega, fun i j v hv => ?_⟩
      match i, j, hv with
      | 0, 0, hv => simp [ei64] at hv; subst hv; simp [go_sem]
      | 0, j + 1, hv => simp [ei64] at hv
      | i + 1, j, hv => simp at hv
    rintro e w1 ⟨rfl, hb⟩
    have HB := PLift.up (((below_lit w _).trans (hb.mono (by simp))))
    clear hb
    go_wp2_with fail
    go_returns
    exact ⟨rfl, HB.down⟩
  | succ f ih =>
    intro hf9 n w h hf
    by_cases h1 : n < 128
    · clear ih hf
      rw [packF_small _ n h1]
      go_enter Try.func133, Try.ntmps133
      go_wp2_with fail
      refine (bytes_any _ _ (w.heap.size + 1) [n] _ (by simp) ?_ (by simp) (by simp; omega)).mono ?_
      · refine .inr ⟨w.heap.size, 0, rfl, by omega, fun i j v hv => ?_⟩
        match i, j, hv with
        | 0, 0, hv => simp [ei64] at hv; subst hv; simp [go_sem]
        | 0, j + 1, hv => simp [ei64] at hv
        | i + 1, j, hv => simp at hv
      rintro e w1 ⟨rfl, hb⟩
      have HB := PLift.up (((below_lit w _).trans (hb.mono (by simp))))
      clear hb
      go_wp2_with fail
      go_returns
      exact ⟨rfl, HB.down⟩
    · have hq : n / 128 < 128 ^ (f + 1) := by rw [Nat.pow_succ] at hf; exact Nat.div_lt_of_lt_mul (by omega)
      have IH := PLift.up (fun w => ih (by omega) (n / 128) w (by omega) hq)
      have hp : packF (f + 1) n = UInt8.ofNat (128 + n % 128) :: packF f (n / 128) := by simp [packF, h1]
      have HP := PLift.up hp
      have hl := (packF_len f (n / 128)).2
      clear ih hf hq hp
      go_enter Try.func133, Try.ntmps133
      go_wp2_with fail
      refine (bytes_any _ _ (w.heap.size + 1) [128 + n % 128] _ (by simp) ?_ (by simp) (by simp; omega)).mono ?_
      · refine .inr ⟨w.heap.size, 0, rfl, by omega, fun i j v hv => ?_⟩
        match i, j, hv with
        | 0, 0, hv => simp [ei64] at hv; subst hv; simp [go_sem]
        | 0, j + 1, hv => simp [ei64] at hv
        | i + 1, j, hv => simp at hv
      rintro e w1 ⟨rfl, hb⟩
      have HB := PLift.up (((below_lit w _).trans (hb.mono (by simp))))
      clear hb
      have hsz := HB.down.size
      obtain ⟨T1, hT1⟩ : ∃ T1, T1 = ByteArray.mk (List.map UInt8.ofNat [128 + n % 128]).toArray := ⟨_, rfl⟩
      have hs1 : T1.size = 1 := by rw [hT1]; rfl
      have HQ : PLift (T1 ++ ByteArray.mk (packF f (n / 128)).toArray = ByteArray.mk (packF (f + 1) n).toArray) := PLift.up (by rw [HP.down, hT1]; rfl)
      rw [← hT1]
      clear hT1
      go_wp2_with fail
      refine (IH.down _).mono ?_
      rintro e w2 ⟨rfl, hb2⟩
      have HB2 := PLift.up (HB.down.trans (hb2.mono hsz))
      clear hb2
      have hpl : (ByteArray.mk (packF f (n / 128)).toArray).size ≤ f + 1 := by show (packF f (n / 128)).toArray.size ≤ f + 1; simpa using hl
      generalize ByteArray.mk (packF f (n / 128)).toArray = T at *
      clear hl
      go_wp2_with fail
      go_returns
      exact ⟨congrArg (fun s => Ending.returned (.string s)) HQ.down, HB2.down⟩
def bC (l : List UInt8) : List Value := l.map fun b => .int .u8 (b.toNat : Int)
theorem or128 (m : Nat) : bits .or .u8 ((m : Int) % 256) 128 = ((128 + m % 128 : Nat) : Int) := by
  rw [Lib.u8_or128_any _ (by omega) (by omega)]; omega
set_option maxHeartbeats 1000000 in
set_option maxRecDepth 20000 in
theorem put_any (n : Nat) (h : n < 18446744073709551616) (w : World) :
    Calls Try.prog 179 #[.int .u64 n] w fun e w' => e = .returned (.string (packS n)) ∧ Below w.heap.size w w' := by
  go_enter Try.func179, Try.ntmps179
  go_wp2_with fail
  go_loopw [0, 3] (fun mv v wr => ∃ (m f : Nat) (done : List UInt8), mv = .int .u64 m ∧ m < 18446744073709551616 ∧ Hid (m < 128 ^ (f + 1) ∧ done ++ packF f m = packB n ∧ done.length + f = 9 ∧ wr.ownsRow w.heap.size 5 1 v done.length (bC done) ∧ Below w.heap.size w wr)) (fun mv _ _ => (intOf mv).toNat)
  case atStart => exact ⟨n, 9, [], rfl, h, by simpa using Nat.lt_of_lt_of_le h (by decide), rfl, rfl, ⟨by simp [bC], .inl ⟨rfl, rfl⟩⟩, Below.refl _ _⟩
  case round =>
    obtain ⟨m, f, done, rfl, hm, hI⟩ := hrel
    have hor := or128 m
    have hdl : done.length ≤ 9 := by have := hI.out.2.2.1; omega
    have hB := hI.out.2.2.2.2.size
    by_cases h8 : 128 ≤ m
    · obtain ⟨f, rfl⟩ : ∃ f', f = f' + 1 := by
        cases f with
        | zero => have := hI.out.1; simp at this; omega
        | succ f => exact ⟨f, rfl⟩
      have HI := PLift.up hI.out
      clear hI
      go_wp2_with (at_builtin; refine wpApp _ rfl _ _ _ rfl w.heap.size _ _ _ elT_u8 _ done.length (bC done) rfl (HI.down.2.2.2.1.alloc _) (some ⟨wr.heap.size, 0, none⟩) 1 1 [.int .u8 ((128 + m % 128 : Nat) : Int)] rfl ?_ ?_ ?_ ?_ ?_ ?_ ?_ ?_)
      · rfl
      · simp
      · intro ad had j u hu
        obtain rfl := Option.some.inj had
        match j, hu with
        | 0, hu => simp at hu; subst hu; simp [Addr.add_lit, go_sem]
        | j + 1, hu => simp at hu
      · simp [Value.oneCell']
      · simp only [maxLen]; omega
      · omega
      · simp; omega
      · intro v' w2 hown hg _
        have hbb : Below w.heap.size w w2 := (HI.down.2.2.2.2.alloc (by omega) _).grown hg (by simp; omega) (fun q hq => (HI.down.2.2.2.1.lt q hq).1)
        have HO := PLift.up hown
        have HBB := PLift.up hbb
        clear hown hbb hg
        go_wp2_with fail
        go_roundw
        case rel =>
          have hp : packF (f + 1) m = UInt8.ofNat (128 + m % 128) :: packF f (m / 128) := by simp [packF]; omega
          refine ⟨m / 128, f, done ++ [UInt8.ofNat (128 + m % 128)], ?_, by omega, ?_, ?_, ?_, ?_, HBB.down⟩
          · simp
          · have := HI.down.1; rw [Nat.pow_succ] at this; exact Nat.div_lt_of_lt_mul (by omega)
          · have := HI.down.2.1; rw [hp] at this; simpa using this
          · have := HI.down.2.2.1; simp; omega
          · have := HO.down
            have e : bC (done ++ [UInt8.ofNat (128 + m % 128)]) = bC done ++ [.int .u8 ((128 + m % 128 : Nat) : Int)] := by
              simp only [bC, List.map_append, List.map_cons, List.map_nil]
              rw [u8_ofNat_toNat _ (by omega)]
            rw [e]; simpa using this
        case measure => simp [intOf]; omega
    · have HI := PLift.up hI.out
      clear hI
      go_wp2_with (at_builtin; refine wpApp _ rfl _ _ _ rfl w.heap.size _ _ _ elT_u8 _ done.length (bC done) rfl (HI.down.2.2.2.1.alloc _) (some ⟨wr.heap.size, 0, none⟩) 1 1 [.int .u8 (m : Int)] rfl ?_ ?_ ?_ ?_ ?_ ?_ ?_ ?_)
      · rfl
      · simp
      · intro ad had j u hu
        obtain rfl := Option.some.inj had
        match j, hu with
        | 0, hu => simp at hu; subst hu; simp [Addr.add_lit, go_sem]
        | j + 1, hu => simp at hu
      · simp [Value.oneCell']
      · simp only [maxLen]; omega
      · omega
      · simp; omega
      · intro v' w2 hown hg _
        have hbb : Below w.heap.size w w2 := (HI.down.2.2.2.2.alloc (by omega) _).grown hg (by simp; omega) (fun q hq => (HI.down.2.2.2.1.lt q hq).1)
        have hfin : done ++ [UInt8.ofNat m] = packB n := by have := HI.down.2.1; rw [packF_small f m (by omega)] at this; exact this
        have e : bC done ++ [.int .u8 (m : Int)] = bC (packB n) := by
          rw [← hfin]
          simp only [bC, List.map_append, List.map_cons, List.map_nil]
          rw [u8_ofNat_toNat _ (by omega)]
        have hlen : done.length + 1 = (packB n).length := by rw [← hfin]; simp
        rw [e, hlen] at hown
        rcases hown.2 with ⟨_, h0⟩ | ⟨g, cap, cur, rfl, _, hgc, _⟩
        · omega
        have hcell := hown.cells (g := g) rfl
        have hcv := run_convert_bytes_back (P := Try.prog) w2 235 9 5 ⟨g, 0, none⟩ cap (packB n) Try.underlying235 Try.underlying5 Try.underlying9 (by
          intro j hj
          exact hcell j _ (by simp only [bC, List.getElem?_map, List.getElem?_eq_getElem hj, Option.map_some]))
        have HBB := PLift.up hbb
        clear hown hbb hg hcell e hfin HI hgc
        generalize hq : (packB n).length = q at *
        clear hlen hdl hB
        go_wp2_with fail
        go_returns
        exact ⟨rfl, HBB.down⟩
end Go.Proofs.Ytibknlfadoeglaa
namespace Go.Proofs.Ytibknlfadoeglaa
set_option linter.all false
open Go.RowKit
def vals (l : List UInt8) : Nat := l.foldr (fun b a => b.toNat % 128 + 128 * a) 0
end Go.Proofs.Ytibknlfadoeglaa
namespace Go.Proofs.Ytibknlfadoeglaa
set_option linter.all false
open Go.RowKit
theorem packedS_any (n : Nat) (w : World) (h : n < 18446744073709551616) :
    Calls Try.prog 133 #[.int .u64 n] w fun e w' => e = .returned (.string (packS n)) ∧ Below w.heap.size w w' := packed_any 9 (Nat.le_refl _) n w h (Nat.lt_of_lt_of_le h (by decide))
end Go.Proofs.Ytibknlfadoeglaa
namespace Go.Proofs.Ytibknlfadoeglaa
set_option linter.all false
open Go.RowKit
theorem bldSize : (Try.prog.info? 256).map (·.size) = some 2 := by kernel_rfl
set_option maxHeartbeats 1000000 in
set_option maxRecDepth 100000 in
theorem bld_check_used (b : Nat) (w : World) (h0 : w.cell? ⟨b, 0, none⟩ = some (.pointer (some ⟨b, 0, none⟩))) :
    Calls Try.prog 207 #[.pointer (some ⟨b, 0, none⟩)] w fun e w' => e = .returned (.tuple #[]) ∧ w' = w := by
  obtain ⟨j, hj, _⟩ := Option.map_eq_some_iff.1 bldSize
  go_enter Try.func207, Try.ntmps207
  go_wp2
  rw [Lib.run_neq_ptr_same w _ Try.underlying254 hj]
  go_wp2
  go_end0
  exact ⟨rfl, rfl⟩
set_option maxHeartbeats 1000000 in
set_option maxRecDepth 100000 in
theorem bld_check_fresh (b : Nat) (w : World) (h0 : w.cell? ⟨b, 0, none⟩ = some (.pointer none)) (hsh : w.shape? b = some (256, 2)) (hfz : w.frozen? ⟨b, 0, none⟩ = false) :
    Calls Try.prog 207 #[.pointer (some ⟨b, 0, none⟩)] w fun e w' => e = .returned (.tuple #[]) ∧ w' = w.setCell ⟨b, 0, none⟩ (.pointer (some ⟨b, 0, none⟩)) := by
  obtain ⟨j, hj, hjs⟩ := Option.map_eq_some_iff.1 bldSize
  go_enter Try.func207, Try.ntmps207
  go_wp2
  rw [Lib.run_to_unsafe w ⟨b, 0, none⟩ Try.underlying254 Try.underlying288 hj (by rw [hjs]; decide) hsh (Nat.zero_lt_succ 1)]
  simp only [Result.andThen]
  rw [Oper.upon_value]
  go_wp2
  rw [run_callFunc_extern Try.func216 (by kernel_rfl) (by kernel_rfl) (by kernel_rfl) (e := Extern.AbiNoEscape.same) (by kernel_rfl)]
  rw [Lib.run_noEscape]
  simp only [Result.andThen]
  rw [Oper.upon_value]
  go_wp2
  rw [Lib.run_from_unsafe w ⟨b, 0, none⟩ Try.underlying288 Try.underlying254 hj hsh (by kernel_rfl)]
  simp only [Result.andThen]
  rw [Oper.upon_value]
  go_wp2
  go_end0
  exact ⟨rfl, rfl⟩
theorem bld_check (B b : Nat) (bs : List Value) (w : World) (h : Lib.IsBuilder 256 5 B b bs w) :
    Calls Try.prog 207 #[.pointer (some ⟨b, 0, none⟩)] w fun e w' => e = .returned (.tuple #[]) ∧ (Lib.BuilderAt 256 5 B b (.pointer (some ⟨b, 0, none⟩)) bs w' ∧ Below B w w') := by
  rcases h with h | h
  · refine (bld_check_fresh b w h.cell0 h.shape h.frozen0).mono ?_
    rintro e w' ⟨rfl, rfl⟩
    exact ⟨rfl, h.used _, (Below.refl B w).setCell (p := ⟨b, 0, none⟩) h.1 _⟩
  · refine (bld_check_used b w h.cell0).mono ?_
    rintro e w' ⟨rfl, rfl⟩
    exact ⟨rfl, h, Below.refl B _⟩
set_option maxHeartbeats 2000000 in
set_option maxRecDepth 100000 in
theorem bld_write (B b : Nat) (bs : List Value) (s : ByteArray) (w : World) (h : Lib.IsBuilder 256 5 B b bs w) (hlen : bs.length + s.size ≤ 140737488355328) (hBw : B ≤ w.heap.size) :
    Calls Try.prog 178 #[.pointer (some ⟨b, 0, none⟩), .string s] w fun e w' => e = .returned (.tuple #[.int .i64 s.size, .nilIface]) ∧ (Lib.BuilderAt 256 5 B b (.pointer (some ⟨b, 0, none⟩)) (bs ++ Lib.strCells s) w' ∧ Below B w w') := by
  obtain ⟨i0, hi, hz0, hz1, hz2⟩ := info_parts (show (Try.prog.info? 5).map (fun i => (i.zero, i.size, i.bytes)) = some (some (.int .u8 0), 1, 1) by kernel_rfl)
  go_enter Try.func178, Try.ntmps178
  go_wp2_with (go_at_call 207; refine (bld_check B b bs _ h).mono ?_)
  rintro e w1 ⟨rfl, h1, hb1⟩
  obtain ⟨hB, v, hbk, hown, hne⟩ := h1
  have c0 : w1.cell? ⟨b, 0, none⟩ = some (.pointer (some ⟨b, 0, none⟩)) := by rw [Lib.cell_of_heap hbk]; rfl
  have c1 : w1.cell? ⟨b, 1, none⟩ = some v := by rw [Lib.cell_of_heap hbk]; rfl
  go_wp2_with (at_builtin; refine Lib.wpList_append_own_string _ rfl _ _ 235 9 rfl B 5 i0 Try.underlying235 Try.underlying9 hi hz0 hz1 hz2 _ _ _ rfl hown s rfl ?c3 ?c4 ?c5 ?_)
  case c3 => unfold maxLen; omega
  case c4 => omega
  case c5 => have := hb1.size; omega
  intro v' w2 hown' hgrow _
  have hlt : b < w1.heap.size := by
    rcases Nat.lt_or_ge b w1.heap.size with h' | h'
    · exact h'
    · simp [Array.getElem?_eq_none h'] at hbk
  have hb2 : w2.heap[b]? = some (.cells #[.pointer (some ⟨b, 0, none⟩), v] 256 (0, 0)) := by
    rw [hgrow.block b hlt (fun e => hne e.symm)]
    exact hbk
  have d0 : w2.cell? ⟨b, 0, none⟩ = some (.pointer (some ⟨b, 0, none⟩)) := by rw [Lib.cell_of_heap hb2]; rfl
  have d1 : w2.cell? ⟨b, 1, none⟩ = some v := by rw [Lib.cell_of_heap hb2]; rfl
  have f1 : w2.frozen? ⟨b, 1, none⟩ = false := Lib.frozen_of_heap hb2 1
  obtain ⟨ao, n', cap, rfl⟩ : ∃ ao n' cap, v' = .slice ao n' cap := by
    rcases hown'.2 with ⟨hv, _⟩ | ⟨g, cap, cur, hv, _⟩
    · exact ⟨_, _, _, hv⟩
    · exact ⟨_, _, _, hv⟩
  go_wp2
  go_ret2
  refine ⟨rfl, ?_, ?_⟩
  · exact Lib.BuilderAt.put (T := 256) (e := 5) hB hb2 (bs' := bs ++ Lib.strCells s) (by simpa [Lib.strCells_length] using hown') (by decide)
  · exact (hb1.grown hgrow (by have := hb1.size; omega) (fun k hk => (hown.lt k hk).1)).setCell (p := ⟨b, 1, none⟩) hB _
theorem bld_keep {w w' : World} {B b : Nat} {bs : List Value} (h : Lib.IsBuilder 256 5 B b bs w) (hb : Below w.heap.size w w') : Lib.IsBuilder 256 5 B b bs w' := by
  have key : ∀ p, Lib.BuilderAt 256 5 B b p bs w → Lib.BuilderAt 256 5 B b p bs w' := by
    rintro p ⟨h1, v, h2, ho, h3⟩
    refine ⟨h1, v, (hb.block b (Array.getElem?_eq_some_iff.1 h2).1).trans h2, ?_, h3⟩
    refine ⟨ho.1, ?_⟩
    rcases ho.2 with ⟨g1, g2⟩ | ⟨g, cap, cur, g1, g2, g3, g4⟩
    · exact .inl ⟨g1, g2⟩
    · exact .inr ⟨g, cap, cur, g1, g2, (hb.block g (Array.getElem?_eq_some_iff.1 g3).1).trans g3, g4⟩
  exact h.imp (key _) (key _)
end Go.Proofs.Ytibknlfadoeglaa
namespace Go.Proofs.Ytibknlfadoeglaa
set_option linter.all false
open Go.RowKit
def paN (n : Int) : List UInt8 := packB (foldN n)
def paK (xs : List Int) (k : Nat) : List UInt8 := packB xs.length ++ (xs.take k).flatMap paN
def paR (xs : List Int) : ByteArray × Int := if 1000 < xs.length then (⟨#[]⟩, 2) else (⟨(paK xs xs.length).toArray⟩, 0)
theorem packB_len (n : Nat) : (packB n).length ≤ 10 := (packF_len 9 n).2
theorem paK_len (xs : List Int) (k : Nat) : (paK xs k).length ≤ 10 + 10 * k := by
  unfold paK
  rw [List.length_append]
  have h1 := packB_len xs.length
  have h2 : ∀ l : List Int, (l.flatMap paN).length ≤ 10 * l.length := by
    intro l
    induction l with
    | nil => simp
    | cons x l ih =>
      have := packB_len (foldN x)
      have e : paN x = packB (foldN x) := rfl
      rw [List.flatMap_cons, List.length_append, List.length_cons, e]; omega
  have h3 := h2 (xs.take k)
  have h4 : (xs.take k).length ≤ k := List.length_take_le _ _
  omega
theorem paK_succ (xs : List Int) (k : Nat) (h : k < xs.length) : paK xs (k + 1) = paK xs k ++ packB (foldN xs[k]) := by
  unfold paK
  rw [take_snoc' xs k h, List.flatMap_append, List.append_assoc]; simp [paN]
set_option maxHeartbeats 2000000 in
set_option maxRecDepth 20000 in
theorem packedAll_any (a : Option Addr) (c B : Nat) (xs : List Int) (w : World) (hE : Els w B a 1 ei64 xs) (hx : ∀ x ∈ xs, I64 x) (hl : xs.length ≤ 140737488351232) (hB : B ≤ w.heap.size) :
    Calls Try.prog 175 #[.slice a xs.length c] w fun e w' => e = .returned (.tuple #[.string (paR xs).1, .int .i64 (paR xs).2]) ∧ Below w.heap.size w w' := by
  have HE := PLift.up hE
  have HX := PLift.up hx
  clear hE hx
  by_cases hn : 1000 < xs.length
  · rw [show paR xs = (⟨#[]⟩, 2) from if_pos hn]
    go_enter Try.func175, Try.ntmps175
    go_wp2_with fail
    go_returns
    exact ⟨rfl, Below.refl _ _⟩
  · rw [show paR xs = (⟨(paK xs xs.length).toArray⟩, 0) from if_neg hn]
    go_enter Try.func175, Try.ntmps175
    go_wp2_with fail
    refine (packedS_any xs.length _ (by omega)).mono ?_
    rintro e w1 ⟨rfl, hb1⟩
    have HB1 := PLift.up hb1
    clear hb1
    have hp0 : packS xs.length = ⟨(paK xs 0).toArray⟩ := by simp [paK, packS]
    rw [hp0]
    clear hp0
    go_wp2_with fail
    go_loopw [4, 16] (fun ov iv wr => ∃ (k : Nat) (T : ByteArray), k ≤ xs.length ∧ iv = .int .i64 k ∧ ov = .string T ∧ T.size ≤ 10 + 10 * k ∧ Hid (T = ⟨(paK xs k).toArray⟩ ∧ Below w.heap.size w wr)) (fun _ iv _ => xs.length - (intOf iv).toNat)
    case atStart => exact ⟨0, _, by omega, rfl, rfl, by rw [bs_size]; exact paK_len xs 0, rfl, HB1.down⟩
    case round =>
      obtain ⟨k, T, hk, rfl, rfl, hT, hI⟩ := hrel
      have hBw := hI.out.2.size
      by_cases hlt : k < xs.length
      · obtain ⟨b, o, rfl, hb, hc⟩ := (HE.down.below hI.out.2 hB).i64 k hlt
        have hxk := HX.down xs[k] (List.getElem_mem hlt)
        have hs := paK_succ xs k hlt
        generalize xs[k] = x at *
        have hf := foldN_lt x hxk
        have hps := packS_size (foldN x)
        have HS : PLift (T ++ packS (foldN x) = ⟨(paK xs (k + 1)).toArray⟩) := PLift.up (by rw [hI.out.1, hs]; exact bs_append _ _)
        have F := PLift.up (folded_any x hxk)
        have Q := PLift.up (fun w => packedS_any (foldN x) w hf)
        generalize foldN x = y at *
        generalize packS y = Y at *
        have HI := PLift.up hI.out.2
        clear hI hs hxk
        go_wp2_with fail
        refine (F.down _).mono ?_
        rintro e w2 ⟨rfl, rfl⟩
        go_wp2_with fail
        refine (Q.down _).mono ?_
        rintro e w2 ⟨rfl, hb2⟩
        have HB2 := PLift.up (HI.down.trans (hb2.mono hBw))
        clear hb2
        go_wp2_with fail
        go_roundw
        case rel => exact ⟨k + 1, _, by omega, by go_num, rfl, by rw [ByteArray.size_append]; omega, HS.down, HB2.down⟩
        case measure => simp [intOf]; omega
      · obtain rfl : k = xs.length := by omega
        have HI := PLift.up hI.out
        clear hI
        go_wp2_with fail
        go_returns
        refine ⟨?_, HI.down.2⟩
        rw [← HI.down.1]; rfl
set_option maxHeartbeats 2000000 in
set_option maxRecDepth 20000 in
theorem putAll_any (a : Option Addr) (c B : Nat) (xs : List Int) (w : World) (hE : Els w B a 1 ei64 xs) (hx : ∀ x ∈ xs, I64 x) (hl : xs.length ≤ 140737488351232) (hB : B ≤ w.heap.size) :
    Calls Try.prog 131 #[.slice a xs.length c] w fun e w' => e = .returned (.tuple #[.string (paR xs).1, .int .i64 (paR xs).2]) ∧ Below w.heap.size w w' := by
  have HE := PLift.up hE
  have HX := PLift.up hx
  clear hE hx
  by_cases hn : 1000 < xs.length
  · rw [show paR xs = (⟨#[]⟩, 2) from if_pos hn]
    go_enter Try.func131, Try.ntmps131
    go_wp2_with fail
    go_returns
    exact ⟨rfl, Below.refl _ _⟩
  · rw [show paR xs = (⟨(paK xs xs.length).toArray⟩, 0) from if_neg hn]
    go_enter Try.func131, Try.ntmps131
    go_wp2_with fail
    refine (put_any xs.length (by omega) _).mono ?_
    rintro e w1 ⟨rfl, hb1⟩
    have BL : PLift (Lib.IsBuilder 256 5 w.heap.size w.heap.size [] w1) := PLift.up (bld_keep (Lib.fresh_isBuilder 256 5 w) hb1)
    have HB1 : PLift (Below w.heap.size w w1) := PLift.up ((below_lit w _).trans (hb1.mono (by simp)))
    have hs1 := HB1.down.size
    clear hb1
    have hp0 : packS xs.length = ⟨(paK xs 0).toArray⟩ := by simp [paK, packS]
    rw [hp0]
    clear hp0
    go_wp2_with fail
    refine (bld_write w.heap.size w.heap.size [] _ w1 BL.down (by rw [bs_size]; have := paK_len xs 0; simp; omega) hs1).mono ?_
    rintro e w2 ⟨rfl, hw2, hb2⟩
    have BL2 : PLift (Lib.IsBuilder 256 5 w.heap.size w.heap.size (Lib.byteCells (paK xs 0)) w2) := PLift.up (.inr hw2)
    have HB2 := PLift.up (HB1.down.trans hb2)
    clear hw2 hb2 BL HB1 hs1
    go_wp2_with fail
    go_loopw [17] (fun iv wr => ∃ (k : Nat), k ≤ xs.length ∧ iv = .int .i64 k ∧ Hid (Lib.IsBuilder 256 5 w.heap.size w.heap.size (Lib.byteCells (paK xs k)) wr ∧ Below w.heap.size w wr)) (fun iv _ => xs.length - (intOf iv).toNat)
    case atStart => exact ⟨0, by omega, rfl, BL2.down, HB2.down⟩
    case round =>
      obtain ⟨k, hk, rfl, hI⟩ := hrel
      have hBw := hI.out.2.size
      by_cases hlt : k < xs.length
      · obtain ⟨b, o, rfl, hb, hc⟩ := (HE.down.below hI.out.2 hB).i64 k hlt
        have hxk := HX.down xs[k] (List.getElem_mem hlt)
        have hs := paK_succ xs k hlt
        have hkl := paK_len xs k
        generalize xs[k] = x at *
        have hf := foldN_lt x hxk
        have hps := packS_size (foldN x)
        have F := PLift.up (fold_any x hxk)
        have Q := PLift.up (fun w => put_any (foldN x) hf w)
        have HS : PLift (Lib.byteCells (paK xs k) ++ Lib.strCells (packS (foldN x)) = Lib.byteCells (paK xs (k + 1))) := PLift.up (by rw [hs]; simp [Lib.byteCells, Lib.strCells, packS])
        generalize foldN x = y at *
        generalize packS y = Y at *
        have HI := PLift.up hI.out
        clear hI hs hxk
        go_wp2_with fail
        refine (F.down _).mono ?_
        rintro e w2 ⟨rfl, rfl⟩
        go_wp2_with fail
        refine (Q.down _).mono ?_
        rintro e w2 ⟨rfl, hb2⟩
        have BL3 := PLift.up (bld_keep HI.down.1 hb2)
        have HB3 := PLift.up (HI.down.2.trans (hb2.mono hBw))
        have hBw3 := HB3.down.size
        clear hb2
        go_wp2_with fail
        refine (bld_write w.heap.size w.heap.size _ _ w2 BL3.down (by simp [Lib.byteCells]; omega) hBw3).mono ?_
        rintro e w3 ⟨rfl, hw3, hb3⟩
        have HB4 := PLift.up (HB3.down.trans hb3)
        have HW3 := PLift.up hw3
        clear hw3 hb3
        go_wp2_with fail
        go_roundw
        case rel => exact ⟨k + 1, by omega, by go_num, by rw [← HS.down]; exact .inr HW3.down, HB4.down⟩
        case measure => simp [intOf]; omega
      · obtain rfl : k = xs.length := by omega
        have HI := PLift.up hI.out
        clear hI
        go_wp2_with fail
        refine (Try.Builder_String_any w.heap.size w.heap.size (paK xs xs.length) wr HI.down.1 hBw).mono ?_
        rintro e w2 ⟨rfl, hb2⟩
        have HB2 := PLift.up (HI.down.2.trans hb2)
        clear hb2
        go_wp2_with fail
        go_returns
        exact ⟨rfl, HB2.down⟩
end Go.Proofs.Ytibknlfadoeglaa
namespace Go.Proofs.Ytibknlfadoeglaa
set_option linter.all false
open Go.RowKit
def mk (m : Nat) (xs : List Nat) : Nat := xs.foldl (fun m n => m ^^^ mx n) m
theorem mk_lt (xs : List Nat) : ∀ m, m < 18446744073709551616 → mk m xs < 18446744073709551616 := by
  induction xs with
  | nil => intro m h; exact h
  | cons x xs ih => intro m h; exact ih _ (xorN_lt _ _ h (mx_lt x))
theorem mk_snoc (m : Nat) (xs : List Nat) (x : Nat) : mk m (xs ++ [x]) = mk m xs ^^^ mx x := by simp [mk]
structure U64s where
  a : Option Addr
  c : Nat
  xs : List Nat
def U64s.val (u : U64s) : Value := .slice u.a u.xs.length u.c
def U64s.enc (u : U64s) : List Value := [u.val]
end Go.Proofs.Ytibknlfadoeglaa
namespace Go.Proofs.Ytibknlfadoeglaa
set_option linter.all false
open Go.RowKit
theorem mk_xor (m : Nat) (xs : List Nat) : mk m xs = m ^^^ mk 0 xs := by
  induction xs generalizing m with
  | nil => simp [mk]
  | cons x xs ih =>
    show mk (m ^^^ mx x) xs = m ^^^ mk (0 ^^^ mx x) xs
    rw [ih, ih (0 ^^^ mx x), Nat.zero_xor, Nat.xor_assoc]
theorem mk_cons (x : Nat) (xs : List Nat) : mk 0 (x :: xs) = mx x ^^^ mk 0 xs := by
  show mk (0 ^^^ mx x) xs = _
  rw [mk_xor, Nat.zero_xor]
def frst (l : List Nat) (i : Nat) : Bool := decide (∀ j, j < i → l.getD j 0 ≠ l.getD i 0)
def oddAt (l : List Nat) (i : Nat) : Bool := (l.count (l.getD i 0)) % 2 == 1
def moTo (l : List Nat) : Nat → Nat
  | 0 => 0
  | i + 1 => if frst l i && oddAt l i then moTo l i ^^^ mx (l.getD i 0) else moTo l i
theorem moTo_succ (l : List Nat) (i : Nat) : moTo l (i + 1) = if frst l i && oddAt l i then moTo l i ^^^ mx (l.getD i 0) else moTo l i := rfl
theorem moTo_lt (l : List Nat) : ∀ i, moTo l i < 18446744073709551616 := by
  intro i
  induction i with
  | zero => show (0 : Nat) < _; decide
  | succ i ih => rw [moTo_succ]; split; exact xorN_lt _ _ ih (mx_lt _); exact ih
theorem mk_filter_part (p : Nat → Bool) (n : Nat) (hp : p n = true) (l : List Nat) :
    mk 0 (l.filter p) = mk 0 (l.filter fun x => p x && x != n) ^^^ (if l.count n % 2 == 1 then mx n else 0) := by
  induction l with
  | nil => simp [mk]
  | cons x l ih =>
    by_cases hx : x = n
    · subst hx
      simp only [List.filter_cons, hp, if_true, bne_self_eq_false, Bool.and_false, Bool.false_eq_true, if_false, List.count_cons_self, mk_cons, ih]
      rcases Nat.mod_two_eq_zero_or_one (l.count x) with h | h
      · have h2 : (l.count x + 1) % 2 = 1 := by omega
        simp [h, h2, Nat.xor_comm]
      · have h2 : (l.count x + 1) % 2 = 0 := by omega
        simp only [h, h2, beq_self_eq_true, if_true]
        rw [Nat.xor_comm (mk 0 _), ← Nat.xor_assoc, Nat.xor_self]; simp
    · have hb : (x != n) = true := by simpa using hx
      have hc : (x :: l).count n = l.count n := List.count_cons_of_ne hx
      rw [hc]
      by_cases hpx : p x = true
      · simp only [List.filter_cons, hpx, hb, Bool.and_self, if_true, mk_cons, ih, Nat.xor_assoc]
      · have hpf : p x = false := by simpa using hpx
        simp only [List.filter_cons, hpf, Bool.false_and, Bool.false_eq_true, if_false, ih]
def unseen (l : List Nat) (i : Nat) (x : Nat) : Bool := !((l.take i).contains x)
theorem moTo_eq (l : List Nat) : ∀ i, i ≤ l.length → mk 0 l = moTo l i ^^^ mk 0 (l.filter (unseen l i)) := by
  intro i
  induction i with
  | zero =>
    intro _
    have : l.filter (unseen l 0) = l := List.filter_eq_self.2 (fun x _ => by simp [unseen])
    rw [this]; simp [moTo]
  | succ i ih =>
    intro hi
    rw [ih (by omega)]
    have hlt : i < l.length := by omega
    have hg : l.getD i 0 = l[i] := by simp [List.getD, hlt]
    have hun : ∀ x, unseen l (i + 1) x = (unseen l i x && x != l[i]) := by
      intro x
      unfold unseen
      rw [take_snoc' l i hlt]
      by_cases hx : x = l[i] <;> simp [hx, -List.take_append_getElem]
    have hfun : (unseen l (i + 1)) = fun x => unseen l i x && x != l[i] := funext hun
    by_cases hs : unseen l i l[i] = true
    · have hf : frst l i = true := by
        simp only [frst, decide_eq_true_eq, hg]
        intro j hj he
        simp only [unseen, Bool.not_eq_true'] at hs
        have : l[i] ∈ l.take i := by
          have hjl : j < l.length := by omega
          have e2 : l.getD j 0 = l[j] := by simp [List.getD, hjl]
          rw [e2] at he
          rw [← he]
          exact List.mem_take_iff_getElem.2 ⟨j, by omega, rfl⟩
        simp [this] at hs
      rw [mk_filter_part (unseen l i) l[i] hs l, hfun]
      rw [moTo_succ]
      simp only [hf, Bool.true_and, oddAt, hg]
      by_cases ho : (l.count l[i] % 2 == 1) = true
      · simp only [ho, if_true]
        rw [Nat.xor_assoc (moTo l i) (mx l[i]), Nat.xor_comm (mx l[i])]
      · simp only [ho, if_false, Bool.false_eq_true]; simp
    · have hf : frst l i = false := by
        simp only [frst, decide_eq_false_iff_not, hg]
        intro hall
        apply hs
        simp only [unseen, Bool.not_eq_true']
        cases hc : (l.take i).contains l[i] with
        | false => rfl
        | true =>
          have hm : l[i] ∈ l.take i := by simpa using hc
          obtain ⟨j, hj, he⟩ := List.mem_take_iff_getElem.1 hm
          have e2 : l.getD j 0 = l[j] := by simp [List.getD, show j < l.length by omega]
          exact absurd (e2.trans he) (hall j (by omega))
      have hsf : unseen l i l[i] = false := by simpa using hs
      have hfil : l.filter (unseen l (i + 1)) = l.filter (unseen l i) := by
        rw [hfun]
        apply List.filter_congr
        intro x _
        by_cases hx : x = l[i]
        · simp [hx, hsf]
        · simp [hx]
      rw [moTo_succ]
      simp [hf, hfil]
theorem moTo_mk (l : List Nat) : moTo l l.length = mk 0 l := by
  rw [moTo_eq l l.length (Nat.le_refl _)]
  have : l.filter (unseen l l.length) = [] := List.filter_eq_nil_iff.2 (fun x hx => by simp [unseen, hx])
  rw [this]; simp [mk]
def cnt (l : List Nat) (i k : Nat) : Nat := (l.take k).count (l.getD i 0)
def fst' (l : List Nat) (i k : Nat) : Bool := decide (∀ j, j < k → l.getD j 0 = l.getD i 0 → i ≤ j)
theorem cnt_le (l : List Nat) (i k : Nat) : cnt l i k ≤ k := Nat.le_trans List.count_le_length (List.length_take_le _ _)
theorem cnt_hit (l : List Nat) (i k : Nat) (hk : k < l.length) (he : l[k] = l.getD i 0) : cnt l i (k + 1) = cnt l i k + 1 := by
  unfold cnt; rw [take_snoc' l k hk, List.count_append, he]; simp
theorem cnt_miss (l : List Nat) (i k : Nat) (hk : k < l.length) (he : l[k] ≠ l.getD i 0) : cnt l i (k + 1) = cnt l i k := by
  unfold cnt; rw [take_snoc' l k hk, List.count_append, List.count_singleton]; simp only [beq_iff_eq, he, if_false, Nat.add_zero]
theorem fst_hit (l : List Nat) (i k : Nat) (hk : k < l.length) (he : l[k] = l.getD i 0) : fst' l i (k + 1) = (fst' l i k && decide (i ≤ k)) := by
  have e2 : l.getD k 0 = l[k] := by simp [List.getD, hk]
  rw [Bool.eq_iff_iff]
  simp only [fst', decide_eq_true_eq, Bool.and_eq_true]
  constructor
  · intro h
    exact ⟨fun j hj => h j (by omega), h k (by omega) (e2.trans he)⟩
  · rintro ⟨h, h2⟩ j hj h3
    rcases Nat.lt_succ_iff_lt_or_eq.1 hj with hl | rfl
    · exact h j hl h3
    · exact h2
theorem fst_miss (l : List Nat) (i k : Nat) (hk : k < l.length) (he : l[k] ≠ l.getD i 0) : fst' l i (k + 1) = fst' l i k := by
  have e2 : l.getD k 0 = l[k] := by simp [List.getD, hk]
  rw [Bool.eq_iff_iff]
  simp only [fst', decide_eq_true_eq]
  constructor
  · intro h j hj; exact h j (by omega)
  · intro h j hj h3
    rcases Nat.lt_succ_iff_lt_or_eq.1 hj with hl | rfl
    · exact h j hl h3
    · exact absurd (e2.symm.trans h3) he
theorem fst_end (l : List Nat) (i : Nat) (hi : i < l.length) : fst' l i l.length = frst l i := by
  rw [Bool.eq_iff_iff]
  simp only [fst', frst, decide_eq_true_eq]
  constructor
  · intro h j hj he; have := h j (by omega) he; omega
  · intro h j hj he
    rcases Nat.lt_or_ge j i with hl | hl
    · exact absurd he (h j hl)
    · exact hl
set_option maxHeartbeats 1000000 in
theorem markOf_any (a : Option Addr) (c B : Nat) (xs : List Nat) (w : World) (hm : xs.length ≤ 1000000) (hx : Els w B a 1 e64 xs) :
    Calls Try.prog 127 #[.slice a xs.length c] w fun e w' => e = .returned (.int .u64 (mk 0 xs : Nat)) ∧ w = w' := by
  have H := Lib.hid hx; clear hx
  rw [← moTo_mk]
  go_enter Try.func127, Try.ntmps127
  go_wp2_with fail
  go_loop [3, 12] (fun m i => ∃ k : Nat, k ≤ xs.length ∧ i = .int .i64 k ∧ m = .int .u64 (moTo xs k : Nat)) (fun _ i => xs.length - (intOf i).toNat)
  case atStart => exact ⟨0, by omega, rfl, rfl⟩
  case round =>
    obtain ⟨k, hk, rfl, rfl⟩ := hrel
    by_cases hlt : k < xs.length
    · obtain ⟨b, o, rfl, hb, hc⟩ := H.out.u64 k hlt
      have hgd : xs.getD k 0 = xs[k] := by simp [List.getD, hlt]
      generalize hxk : xs[k] = x at hc hgd
      have HX := Lib.hid hxk; clear hxk
      have HG := Lib.hid hgd; clear hgd
      go_wp2_with fail
      go_loop [6, 7, 8, 9, 19] (fun t f _ _ j => ∃ q : Nat, q ≤ xs.length ∧ j = .int .i64 q ∧ t = .int .i64 (cnt xs k q : Nat) ∧ f = .bool (fst' xs k q)) (fun _ _ _ _ j => xs.length - (intOf j).toNat)
      case atStart => exact ⟨0, by omega, rfl, by simp [cnt], by simp [fst']⟩
      case round =>
        obtain ⟨q, hq, rfl, rfl, rfl⟩ := hrel
        have hcl := cnt_le xs k q
        by_cases hlt2 : q < xs.length
        · obtain ⟨b2, o2, he2, hb2, hc2⟩ := H.out.u64 q hlt2
          have hpp : b = b2 ∧ o = o2 := by simpa using he2
          obtain ⟨rfl, rfl⟩ := hpp
          clear he2 hb2
          by_cases hxy : xs[q] = x
          · have h1 := cnt_hit xs k q hlt2 (by rw [HG.out]; exact hxy)
            have h2 := fst_hit xs k q hlt2 (by rw [HG.out]; exact hxy)
            have H1 := Lib.hid h1; have H2 := Lib.hid h2
            clear h1 h2
            rw [hxy] at hc2
            have HXY := Lib.hid hxy; clear hxy
            cases hf : fst' xs k q with
            | false =>
              have HF := Lib.hid hf; clear hf
              go_wp2_with fail
              go_round
              case rel => exact ⟨q + 1, by omega, by go_num, by rw [H1.out]; go_num, by rw [H2.out, HF.out]; rfl⟩
              case measure => simp [intOf]; omega
            | true =>
              have HF := Lib.hid hf; clear hf
              go_wp2_with fail
              go_round
              case rel => exact ⟨q + 1, by omega, by go_num, by rw [H1.out]; go_num, by rw [H2.out, HF.out]; simp⟩
              case measure => simp [intOf]; omega
          · have h1 := cnt_miss xs k q hlt2 (by rw [HG.out]; exact hxy)
            have h2 := fst_miss xs k q hlt2 (by rw [HG.out]; exact hxy)
            have hne : (((xs[q] : Nat) : Int) == (x : Int)) = false := by simp; omega
            have H1 := Lib.hid h1; have H2 := Lib.hid h2
            clear h1 h2
            have HXY := Lib.hid hxy; clear hxy
            go_wp2_with fail
            go_round
            case rel => exact ⟨q + 1, by omega, by go_num, by rw [H1.out], by rw [H2.out]⟩
            case measure => simp [intOf]; omega
        · have hq2 : q = xs.length := by omega
          subst hq2
          have hfe := fst_end xs k hlt
          have hce : cnt xs k xs.length = xs.count x := by unfold cnt; rw [List.take_length, HG.out]
          have hst : moTo xs (k + 1) = if frst xs k && (xs.count x % 2 == 1) then moTo xs k ^^^ mx x else moTo xs k := by rw [moTo_succ, oddAt, HG.out]
          have hxo := xorN (moTo xs k) (mx x) (moTo_lt _ _) (mx_lt _)
          rw [hfe, hce]
          rw [hce] at hcl
          clear hfe hce hlt2
          have HST := Lib.hid hst; clear hst
          have HXO := Lib.hid hxo; clear hxo
          generalize frst xs k = f at *
          generalize xs.count x = C at *
          cases f with
          | false =>
            go_wp2_with fail
            go_round
            case rel => exact ⟨k + 1, by omega, by go_num, by rw [HST.out]; rfl⟩
            case measure => simp [intOf]; omega
          | true =>
            by_cases ho : C % 2 = 1
            · have ho' : (((C : Nat) : Int) % 2 == 1) = true := by simp; omega
              have HS : moTo xs (k + 1) = moTo xs k ^^^ mx x := by rw [HST.out]; simp [ho]
              have HS := Lib.hid HS
              clear HST ho
              go_wp2_with (go_at_call 164; refine (mixed_any _ _).mono ?_; rintro e w' ⟨rfl, rfl⟩)
              go_round
              case rel => exact ⟨k + 1, by omega, by go_num, by rw [HS.out, HXO.out]⟩
              case measure => simp [intOf]; omega
            · have ho' : (((C : Nat) : Int) % 2 == 1) = false := by simp; omega
              have HS : moTo xs (k + 1) = moTo xs k := by rw [HST.out]; simp [ho]
              have HS := Lib.hid HS
              clear HST ho
              go_wp2_with fail
              go_round
              case rel => exact ⟨k + 1, by omega, by go_num, by rw [HS.out]⟩
              case measure => simp [intOf]; omega
    · have hke : k = xs.length := by omega
      go_wp2_with fail
      go_ret
      exact ⟨rfl, rfl⟩
end Go.Proofs.Ytibknlfadoeglaa
namespace Go.Proofs.Ytibknlfadoeglaa
set_option linter.all false
open Go.RowKit
set_option maxRecDepth 100000
set_option maxHeartbeats 1000000
theorem rel_strInt {s : ByteArray} {n : Int} {U : Nat → Prop} {w : World} {F : Nat → Prop} {β : Nat → Option Bind} : RelA U w F β (.tup [S s, I .i64 n]) (.tuple #[.string s, .int .i64 n]) := by
  simp only [RelA]
  refine ⟨_, rfl, ?_⟩
  simp [RelL, RelA, RelP, Value.oneCell']
theorem putAll_s (xs : List Int) (hx : ∀ x ∈ xs, I64 x) (hl : xs.length ≤ 140737488351232) : Spec Try.prog 131 [.c (.sl 1 (xs.map i64P))] [] (.tup [S (paR xs).1, I .i64 (paR xs).2]) [] :=
  spec_any (enters Try.func131 rfl rfl) _ _ (.tuple #[.string (paR xs).1, .int .i64 (paR xs).2]) (fun _ _ _ _ => rel_strInt) fun w F β vs hF hv => by
    obtain ⟨u, rfl, hu⟩ := relL_one hv
    obtain ⟨a, c, rfl, _, _, hE⟩ := rel_els (fun n : Int => Value.int .i64 n) xs hF hu
    exact putAll_any a c w.heap.size xs w hE hx hl (Nat.le_refl _)
theorem packedAll_s (xs : List Int) (hx : ∀ x ∈ xs, I64 x) (hl : xs.length ≤ 140737488351232) : Spec Try.prog 175 [.c (.sl 1 (xs.map i64P))] [] (.tup [S (paR xs).1, I .i64 (paR xs).2]) [] :=
  spec_any (enters Try.func175 rfl rfl) _ _ (.tuple #[.string (paR xs).1, .int .i64 (paR xs).2]) (fun _ _ _ _ => rel_strInt) fun w F β vs hF hv => by
    obtain ⟨u, rfl, hu⟩ := relL_one hv
    obtain ⟨a, c, rfl, _, _, hE⟩ := rel_els (fun n : Int => Value.int .i64 n) xs hF hu
    exact packedAll_any a c w.heap.size xs w hE hx hl (Nat.le_refl _)
theorem markOf_s (xs : List Nat) (hl : xs.length ≤ 1000000) : Spec Try.prog 127 [.c (.sl 1 (xs.map u64P))] [] (.c (.v (.int .u64 (mk 0 xs : Nat)))) [] :=
  spec_any (enters Try.func127 rfl rfl) _ _ (.int .u64 (mk 0 xs : Nat)) (fun _ _ _ _ => relC.2 ⟨rfl, rfl⟩) fun w F β vs hF hv => by
    obtain ⟨u, rfl, hu⟩ := relL_one hv
    obtain ⟨a, c, rfl, _, _, hE⟩ := rel_els (fun n : Nat => Value.int .u64 n) xs hF hu
    exact (markOf_any a c w.heap.size xs w hl hE).mono fun e w' h => ⟨h.1, h.2 ▸ Below.refl _ _⟩
theorem mturn_s (m n : Nat) (hm : m < 18446744073709551616) : Spec Try.prog 205 [.c (.v (.int .u64 m)), .c (.v (.int .u64 n))] [] (.c (.v (.int .u64 (m ^^^ mx n : Nat)))) [] :=
  spec_scal (enters Try.func205 rfl rfl) [.int .u64 m, .int .u64 n] _ rfl fun w => (turn_any m n hm w).mono fun e w' h => ⟨h.1, h.2 ▸ Below.refl _ _⟩
theorem mk_nil (m : Nat) : mk m [] = m := rfl
theorem mkl (l : List Nat) (m : Nat) (k : Nat) (h : k < l.length) : mk m (l.take (k + 1)) = mk m (l.take k) ^^^ mx (l.getD k default) := by rw [take_snoc l k h, mk_snoc]
theorem mall_s (l : List Nat) (hl : l.length ≤ 1000000) : Spec Try.prog 174 [.c (.sl 1 [[.sl 1 (l.map u64P)]])] [] (.c (.v (.int .u64 (mk 0 l : Nat)))) [] := by
  refine spec_am Try.func174 rfl rfl mix 26 rfl [.tmp 2] Try.results174 (Nat.le_of_ble_eq_true rfl) ?_
  (try simp (etaStruct := .none) only [push_cast, Int.cast_ofNat_Int, Nat.reduceAdd, Nat.reduceSub, Nat.reduceMul, reduceCtorEq, reduceIte, Nat.reduceEqDiff, Nat.reduceLT, Nat.reduceLeDiff, Nat.reduceBEq, Int.reduceToNat, Int.reduceLE, Int.reduceLT]); (try simp (disch := omega) only [wrap_in, wk_self, Int.tdiv_eq_ediv_of_nonneg, Int.tmod_eq_emod_of_nonneg]); (repeat (with_reducible refine And.intro ?_ ?_; · first | omega | decide | (simp; done) | (simp; omega) | (intro hh; refine ⟨hh, ?_⟩; omega) | (simp +contextual; done)))
  refine loopI (fun k : Nat => ⟨[(10, I .i64 k), (9, I .i64 1), (8, .c (.sl 1 [[.sl 1 (l.map u64P)]])), (3, .c (.v (.int .u64 ((if k = 0 then 0 else mk 0 l : Nat) : Int))))], [], 0⟩) (fun k : Nat => k ≤ 1) (fun k : Nat => 1 - k) (0) (Nat.zero_le _) (To.mk [] rfl rfl List.nodup_nil trivial ?_) ?_
  · simp (etaStruct := .none) only [push_cast, Int.cast_ofNat_Int, Nat.reduceAdd, Nat.reduceSub, Nat.reduceMul, reduceCtorEq, reduceIte, Nat.reduceEqDiff, Nat.reduceLT, Nat.reduceLeDiff, Nat.reduceBEq, Int.reduceToNat, Int.reduceLE, Int.reduceLT, if_pos trivial]
  rintro k hk
  (try simp (etaStruct := .none) only [push_cast, Int.cast_ofNat_Int, Nat.reduceAdd, Nat.reduceSub, Nat.reduceMul, reduceCtorEq, reduceIte, Nat.reduceEqDiff, Nat.reduceLT, Nat.reduceLeDiff, Nat.reduceBEq, Int.reduceToNat, Int.reduceLE, Int.reduceLT]); (try simp (disch := omega) only [wrap_in, wk_self, Int.tdiv_eq_ediv_of_nonneg, Int.tmod_eq_emod_of_nonneg]); (repeat (with_reducible refine And.intro ?_ ?_; · first | omega | decide | (simp; done) | (simp; omega) | (intro hh; refine ⟨hh, ?_⟩; omega) | (simp +contextual; done)))
  refine cond_i (fun h1 => ?_) (fun h1 => ?_)
  · (try simp only [decide_eq_true_eq, decide_eq_false_iff_not, Bool.not_eq_true', Bool.not_eq_false', Bool.or_eq_true, Bool.and_eq_true, Bool.or_eq_false_iff, Bool.and_eq_false_iff, Int.not_lt, Int.not_le, Bool.not_true, Bool.not_false, not_and, not_or] at h1)
    obtain rfl : k = 0 := by omega
    (try simp (etaStruct := .none) only [push_cast, Int.cast_ofNat_Int, Nat.reduceAdd, Nat.reduceSub, Nat.reduceMul, reduceCtorEq, reduceIte, Nat.reduceEqDiff, Nat.reduceLT, Nat.reduceLeDiff, Nat.reduceBEq, Int.reduceToNat, Int.reduceLE, Int.reduceLT]); (try simp (disch := omega) only [wrap_in, wk_self, Int.tdiv_eq_ediv_of_nonneg, Int.tmod_eq_emod_of_nonneg]); (repeat (with_reducible refine And.intro ?_ ?_; · first | omega | decide | (simp; done) | (simp; omega) | (intro hh; refine ⟨hh, ?_⟩; omega) | (simp +contextual; done)))
    refine loopI (fun k : Nat => ⟨[(16, I .i64 k), (15, I .i64 l.length), (14, .c (.sl 1 (l.map u64P))), (10, I .i64 0), (9, I .i64 1), (8, .c (.sl 1 [[.sl 1 (l.map u64P)]])), (3, .c (.v (.int .u64 (mk 0 (l.take k) : Nat))))], [], 0⟩) (fun k : Nat => k ≤ l.length) (fun k : Nat => l.length - k) (0) (Nat.zero_le _) (To.mk [] rfl rfl List.nodup_nil trivial ?_) ?_
    · simp (etaStruct := .none) only [push_cast, Int.cast_ofNat_Int, Nat.reduceAdd, Nat.reduceSub, Nat.reduceMul, reduceCtorEq, reduceIte, Nat.reduceEqDiff, Nat.reduceLT, Nat.reduceLeDiff, Nat.reduceBEq, Int.reduceToNat, Int.reduceLE, Int.reduceLT, List.take_zero, mk_nil]
    rintro k hk
    (try simp (etaStruct := .none) only [push_cast, Int.cast_ofNat_Int, Nat.reduceAdd, Nat.reduceSub, Nat.reduceMul, reduceCtorEq, reduceIte, Nat.reduceEqDiff, Nat.reduceLT, Nat.reduceLeDiff, Nat.reduceBEq, Int.reduceToNat, Int.reduceLE, Int.reduceLT]); (try simp (disch := omega) only [wrap_in, wk_self, Int.tdiv_eq_ediv_of_nonneg, Int.tmod_eq_emod_of_nonneg]); (repeat (with_reducible refine And.intro ?_ ?_; · first | omega | decide | (simp; done) | (simp; omega) | (intro hh; refine ⟨hh, ?_⟩; omega) | (simp +contextual; done)))
    refine cond_i (fun h2 => ?_) (fun h2 => ?_)
    · (try simp only [decide_eq_true_eq, decide_eq_false_iff_not, Bool.not_eq_true', Bool.not_eq_false', Bool.or_eq_true, Bool.and_eq_true, Bool.or_eq_false_iff, Bool.and_eq_false_iff, Int.not_lt, Int.not_le, Bool.not_true, Bool.not_false, not_and, not_or] at h2)
      have hlt : k < l.length := by omega
      have ml := mkl l 0 k hlt
      (try simp (etaStruct := .none) only [push_cast, Int.cast_ofNat_Int, Nat.reduceAdd, Nat.reduceSub, Nat.reduceMul, reduceCtorEq, reduceIte, Nat.reduceEqDiff, Nat.reduceLT, Nat.reduceLeDiff, Nat.reduceBEq, Int.reduceToNat, Int.reduceLE, Int.reduceLT, getD_in _ _ _ hlt, u64P]); (try simp (disch := omega) only [wrap_in, wk_self, Int.tdiv_eq_ediv_of_nonneg, Int.tmod_eq_emod_of_nonneg]); (repeat (with_reducible refine And.intro ?_ ?_; · first | omega | decide | (simp; done) | (simp; omega) | (intro hh; refine ⟨hh, ?_⟩; omega) | (simp +contextual; done))); (try simp (etaStruct := .none) only [push_cast, Int.cast_ofNat_Int, Nat.reduceAdd, Nat.reduceSub, Nat.reduceMul, reduceCtorEq, reduceIte, Nat.reduceEqDiff, Nat.reduceLT, Nat.reduceLeDiff, Nat.reduceBEq, Int.reduceToNat, Int.reduceLE, Int.reduceLT, getD_in _ _ _ hlt, u64P]); (try simp (disch := omega) only [wrap_in, wk_self, Int.tdiv_eq_ediv_of_nonneg, Int.tmod_eq_emod_of_nonneg]); (repeat (with_reducible refine And.intro ?_ ?_; · first | omega | decide | (simp; done) | (simp; omega) | (intro hh; refine ⟨hh, ?_⟩; omega) | (simp +contextual; done)))
      refine callP (mturn_s (mk 0 (l.take k)) (l.getD k default) (mk_lt _ 0 (by decide))) (WkL.refl _) ?_
      (try simp (etaStruct := .none) only [push_cast, Int.cast_ofNat_Int, Nat.reduceAdd, Nat.reduceSub, Nat.reduceMul, reduceCtorEq, reduceIte, Nat.reduceEqDiff, Nat.reduceLT, Nat.reduceLeDiff, Nat.reduceBEq, Int.reduceToNat, Int.reduceLE, Int.reduceLT, getD_in _ _ _ hlt, u64P]); (try simp (disch := omega) only [wrap_in, wk_self, Int.tdiv_eq_ediv_of_nonneg, Int.tmod_eq_emod_of_nonneg]); (repeat (with_reducible refine And.intro ?_ ?_; · first | omega | decide | (simp; done) | (simp; omega) | (intro hh; refine ⟨hh, ?_⟩; omega) | (simp +contextual; done))); (try simp (etaStruct := .none) only [push_cast, Int.cast_ofNat_Int, Nat.reduceAdd, Nat.reduceSub, Nat.reduceMul, reduceCtorEq, reduceIte, Nat.reduceEqDiff, Nat.reduceLT, Nat.reduceLeDiff, Nat.reduceBEq, Int.reduceToNat, Int.reduceLE, Int.reduceLT, getD_in _ _ _ hlt, u64P]); (try simp (disch := omega) only [wrap_in, wk_self, Int.tdiv_eq_ediv_of_nonneg, Int.tmod_eq_emod_of_nonneg]); (repeat (with_reducible refine And.intro ?_ ?_; · first | omega | decide | (simp; done) | (simp; omega) | (intro hh; refine ⟨hh, ?_⟩; omega) | (simp +contextual; done)))
      refine ⟨k + 1, by omega, by omega, To.mk [] rfl rfl List.nodup_nil trivial ?_⟩
      · (try simp (etaStruct := .none) only [push_cast, Int.cast_ofNat_Int, Nat.reduceAdd, Nat.reduceSub, Nat.reduceMul, reduceCtorEq, reduceIte, Nat.reduceEqDiff, Nat.reduceLT, Nat.reduceLeDiff, Nat.reduceBEq, Int.reduceToNat, Int.reduceLE, Int.reduceLT, ml]); (try simp (disch := omega) only [wrap_in, wk_self, Int.tdiv_eq_ediv_of_nonneg, Int.tmod_eq_emod_of_nonneg]); (repeat (with_reducible refine And.intro ?_ ?_; · first | omega | decide | (simp; done) | (simp; omega) | (intro hh; refine ⟨hh, ?_⟩; omega) | (simp +contextual; done))); (try simp (etaStruct := .none) only [push_cast, Int.cast_ofNat_Int, Nat.reduceAdd, Nat.reduceSub, Nat.reduceMul, reduceCtorEq, reduceIte, Nat.reduceEqDiff, Nat.reduceLT, Nat.reduceLeDiff, Nat.reduceBEq, Int.reduceToNat, Int.reduceLE, Int.reduceLT, ml]); (try simp (disch := omega) only [wrap_in, wk_self, Int.tdiv_eq_ediv_of_nonneg, Int.tmod_eq_emod_of_nonneg]); (repeat (with_reducible refine And.intro ?_ ?_; · first | omega | decide | (simp; done) | (simp; omega) | (intro hh; refine ⟨hh, ?_⟩; omega) | (simp +contextual; done)))
    · (try simp only [decide_eq_true_eq, decide_eq_false_iff_not, Bool.not_eq_true', Bool.not_eq_false', Bool.or_eq_true, Bool.and_eq_true, Bool.or_eq_false_iff, Bool.and_eq_false_iff, Int.not_lt, Int.not_le, Bool.not_true, Bool.not_false, not_and, not_or] at h2)
      obtain rfl : k = l.length := by omega
      (try simp (etaStruct := .none) only [push_cast, Int.cast_ofNat_Int, Nat.reduceAdd, Nat.reduceSub, Nat.reduceMul, reduceCtorEq, reduceIte, Nat.reduceEqDiff, Nat.reduceLT, Nat.reduceLeDiff, Nat.reduceBEq, Int.reduceToNat, Int.reduceLE, Int.reduceLT, List.take_length]); (try simp (disch := omega) only [wrap_in, wk_self, Int.tdiv_eq_ediv_of_nonneg, Int.tmod_eq_emod_of_nonneg]); (repeat (with_reducible refine And.intro ?_ ?_; · first | omega | decide | (simp; done) | (simp; omega) | (intro hh; refine ⟨hh, ?_⟩; omega) | (simp +contextual; done))); (try simp (etaStruct := .none) only [push_cast, Int.cast_ofNat_Int, Nat.reduceAdd, Nat.reduceSub, Nat.reduceMul, reduceCtorEq, reduceIte, Nat.reduceEqDiff, Nat.reduceLT, Nat.reduceLeDiff, Nat.reduceBEq, Int.reduceToNat, Int.reduceLE, Int.reduceLT, List.take_length]); (try simp (disch := omega) only [wrap_in, wk_self, Int.tdiv_eq_ediv_of_nonneg, Int.tmod_eq_emod_of_nonneg]); (repeat (with_reducible refine And.intro ?_ ?_; · first | omega | decide | (simp; done) | (simp; omega) | (intro hh; refine ⟨hh, ?_⟩; omega) | (simp +contextual; done)))
      refine ⟨1, by omega, by omega, To.mk [] rfl rfl List.nodup_nil trivial ?_⟩
      · (try simp (etaStruct := .none) only [push_cast, Int.cast_ofNat_Int, Nat.reduceAdd, Nat.reduceSub, Nat.reduceMul, reduceCtorEq, reduceIte, Nat.reduceEqDiff, Nat.reduceLT, Nat.reduceLeDiff, Nat.reduceBEq, Int.reduceToNat, Int.reduceLE, Int.reduceLT, if_neg (show ¬ (1 : Nat) = 0 by decide), Int.zero_add]); (try simp (disch := omega) only [wrap_in, wk_self, Int.tdiv_eq_ediv_of_nonneg, Int.tmod_eq_emod_of_nonneg]); (repeat (with_reducible refine And.intro ?_ ?_; · first | omega | decide | (simp; done) | (simp; omega) | (intro hh; refine ⟨hh, ?_⟩; omega) | (simp +contextual; done))); (try simp (etaStruct := .none) only [push_cast, Int.cast_ofNat_Int, Nat.reduceAdd, Nat.reduceSub, Nat.reduceMul, reduceCtorEq, reduceIte, Nat.reduceEqDiff, Nat.reduceLT, Nat.reduceLeDiff, Nat.reduceBEq, Int.reduceToNat, Int.reduceLE, Int.reduceLT, if_neg (show ¬ (1 : Nat) = 0 by decide), Int.zero_add]); (try simp (disch := omega) only [wrap_in, wk_self, Int.tdiv_eq_ediv_of_nonneg, Int.tmod_eq_emod_of_nonneg]); (repeat (with_reducible refine And.intro ?_ ?_; · first | omega | decide | (simp; done) | (simp; omega) | (intro hh; refine ⟨hh, ?_⟩; omega) | (simp +contextual; done)))
  · (try simp only [decide_eq_true_eq, decide_eq_false_iff_not, Bool.not_eq_true', Bool.not_eq_false', Bool.or_eq_true, Bool.and_eq_true, Bool.or_eq_false_iff, Bool.and_eq_false_iff, Int.not_lt, Int.not_le, Bool.not_true, Bool.not_false, not_and, not_or] at h1)
    obtain rfl : k = 1 := by omega
    (try simp (etaStruct := .none) only [push_cast, Int.cast_ofNat_Int, Nat.reduceAdd, Nat.reduceSub, Nat.reduceMul, reduceCtorEq, reduceIte, Nat.reduceEqDiff, Nat.reduceLT, Nat.reduceLeDiff, Nat.reduceBEq, Int.reduceToNat, Int.reduceLE, Int.reduceLT]); (try simp (disch := omega) only [wrap_in, wk_self, Int.tdiv_eq_ediv_of_nonneg, Int.tmod_eq_emod_of_nonneg]); (repeat (with_reducible refine And.intro ?_ ?_; · first | omega | decide | (simp; done) | (simp; omega) | (intro hh; refine ⟨hh, ?_⟩; omega) | (simp +contextual; done)))
    (first | (refine ret0 rfl (by repeat' (first | exact trivial | exact rfl | refine ⟨?_, ?_⟩)) (Wk.of ?_); (try simp (etaStruct := .none) only [push_cast, Int.cast_ofNat_Int, Nat.reduceAdd, Nat.reduceSub, Nat.reduceMul, reduceCtorEq, reduceIte, Nat.reduceEqDiff, Nat.reduceLT, Nat.reduceLeDiff, Nat.reduceBEq, Int.reduceToNat, Int.reduceLE, Int.reduceLT]); first | done | (simp [*]; done) | (simp_all []; done)) | (refine ret0 rfl (by repeat' (first | exact trivial | exact rfl | refine ⟨?_, ?_⟩)) ?_; (try simp (etaStruct := .none) only [push_cast, Int.cast_ofNat_Int, Nat.reduceAdd, Nat.reduceSub, Nat.reduceMul, reduceCtorEq, reduceIte, Nat.reduceEqDiff, Nat.reduceLT, Nat.reduceLeDiff, Nat.reduceBEq, Int.reduceToNat, Int.reduceLE, Int.reduceLT]); (try simp [*]); (try (first | exact Wk.refl _ | exact Wk.nil _ | (refine Wk.tup ?_; repeat' (first | exact trivial | exact Wk.refl _ | exact Wk.nil _ | refine ⟨?_, ?_⟩ | (refine Wk.agg ?_)))))))
theorem mof_s (l : List Nat) (hl : l.length ≤ 1000000) : Spec Try.prog 125 [.c (.sl 1 (l.map u64P))] [] (.c (.v (.int .u64 (mk 0 l : Nat)))) [] := by
  refine spec_am Try.func125 rfl rfl mix 6 rfl [.tmp 2] Try.results125 (Nat.le_of_ble_eq_true rfl) ?_
  (try simp (etaStruct := .none) only [push_cast, Int.cast_ofNat_Int, Nat.reduceAdd, Nat.reduceSub, Nat.reduceMul, reduceCtorEq, reduceIte, Nat.reduceEqDiff, Nat.reduceLT, Nat.reduceLeDiff, Nat.reduceBEq, Int.reduceToNat, Int.reduceLE, Int.reduceLT]); (try simp (disch := omega) only [wrap_in, wk_self, Int.tdiv_eq_ediv_of_nonneg, Int.tmod_eq_emod_of_nonneg]); (repeat (with_reducible refine And.intro ?_ ?_; · first | omega | decide | (simp; done) | (simp; omega) | (intro hh; refine ⟨hh, ?_⟩; omega) | (simp +contextual; done)))
  refine callB (mall_s l hl) (WkL.refl _) rfl ?_
  (try simp (etaStruct := .none) only [push_cast, Int.cast_ofNat_Int, Nat.reduceAdd, Nat.reduceSub, Nat.reduceMul, reduceCtorEq, reduceIte, Nat.reduceEqDiff, Nat.reduceLT, Nat.reduceLeDiff, Nat.reduceBEq, Int.reduceToNat, Int.reduceLE, Int.reduceLT]); (try simp (disch := omega) only [wrap_in, wk_self, Int.tdiv_eq_ediv_of_nonneg, Int.tmod_eq_emod_of_nonneg]); (repeat (with_reducible refine And.intro ?_ ?_; · first | omega | decide | (simp; done) | (simp; omega) | (intro hh; refine ⟨hh, ?_⟩; omega) | (simp +contextual; done)))
  (first | (refine ret0 rfl (by repeat' (first | exact trivial | exact rfl | refine ⟨?_, ?_⟩)) (Wk.of ?_); (try simp (etaStruct := .none) only [push_cast, Int.cast_ofNat_Int, Nat.reduceAdd, Nat.reduceSub, Nat.reduceMul, reduceCtorEq, reduceIte, Nat.reduceEqDiff, Nat.reduceLT, Nat.reduceLeDiff, Nat.reduceBEq, Int.reduceToNat, Int.reduceLE, Int.reduceLT]); first | done | (simp [*]; done) | (simp_all []; done)) | (refine ret0 rfl (by repeat' (first | exact trivial | exact rfl | refine ⟨?_, ?_⟩)) ?_; (try simp (etaStruct := .none) only [push_cast, Int.cast_ofNat_Int, Nat.reduceAdd, Nat.reduceSub, Nat.reduceMul, reduceCtorEq, reduceIte, Nat.reduceEqDiff, Nat.reduceLT, Nat.reduceLeDiff, Nat.reduceBEq, Int.reduceToNat, Int.reduceLE, Int.reduceLT]); (try simp [*]); (try (first | exact Wk.refl _ | exact Wk.nil _ | (refine Wk.tup ?_; repeat' (first | exact trivial | exact Wk.refl _ | exact Wk.nil _ | refine ⟨?_, ?_⟩ | (refine Wk.agg ?_)))))))
def leafI (l : List Int) : Nat := leafN (paR l).1
theorem paR_size (l : List Int) : (paR l).1.size ≤ 20000 := by
  unfold paR
  split
  · show 0 ≤ 20000; omega
  · show ByteArray.size ⟨(paK l l.length).toArray⟩ ≤ 20000
    rw [bs_size]; have := paK_len l l.length; omega
theorem tleaf_s (l : List Int) (hx : ∀ x ∈ l, I64 x) (hl : l.length ≤ 1000000) : Spec Try.prog 124 [.c (.sl 1 (l.map i64P))] [] (.c (.v (.int .u64 (leafI l : Nat)))) [] := by
  have := paR_size l
  refine spec_am Try.func124 rfl rfl mix 12 rfl [.tmp 2] Try.results124 (Nat.le_of_ble_eq_true rfl) ?_
  (try simp (etaStruct := .none) only [push_cast, Int.cast_ofNat_Int, Nat.reduceAdd, Nat.reduceSub, Nat.reduceMul, reduceCtorEq, reduceIte, Nat.reduceEqDiff, Nat.reduceLT, Nat.reduceLeDiff, Nat.reduceBEq, Int.reduceToNat, Int.reduceLE, Int.reduceLT]); (try simp (disch := omega) only [wrap_in, wk_self, Int.tdiv_eq_ediv_of_nonneg, Int.tmod_eq_emod_of_nonneg]); (repeat (with_reducible refine And.intro ?_ ?_; · first | omega | decide | (simp; done) | (simp; omega) | (intro hh; refine ⟨hh, ?_⟩; omega) | (simp +contextual; done)))
  refine callP (putAll_s l hx (by omega)) (WkL.refl _) ?_
  (try simp (etaStruct := .none) only [push_cast, Int.cast_ofNat_Int, Nat.reduceAdd, Nat.reduceSub, Nat.reduceMul, reduceCtorEq, reduceIte, Nat.reduceEqDiff, Nat.reduceLT, Nat.reduceLeDiff, Nat.reduceBEq, Int.reduceToNat, Int.reduceLE, Int.reduceLT]); (try simp (disch := omega) only [wrap_in, wk_self, Int.tdiv_eq_ediv_of_nonneg, Int.tmod_eq_emod_of_nonneg]); (repeat (with_reducible refine And.intro ?_ ?_; · first | omega | decide | (simp; done) | (simp; omega) | (intro hh; refine ⟨hh, ?_⟩; omega) | (simp +contextual; done)))
  refine callP (leaf_s (paR l).1 (by omega)) (WkL.refl _) ?_
  (try simp (etaStruct := .none) only [push_cast, Int.cast_ofNat_Int, Nat.reduceAdd, Nat.reduceSub, Nat.reduceMul, reduceCtorEq, reduceIte, Nat.reduceEqDiff, Nat.reduceLT, Nat.reduceLeDiff, Nat.reduceBEq, Int.reduceToNat, Int.reduceLE, Int.reduceLT]); (try simp (disch := omega) only [wrap_in, wk_self, Int.tdiv_eq_ediv_of_nonneg, Int.tmod_eq_emod_of_nonneg]); (repeat (with_reducible refine And.intro ?_ ?_; · first | omega | decide | (simp; done) | (simp; omega) | (intro hh; refine ⟨hh, ?_⟩; omega) | (simp +contextual; done)))
  (first | (refine ret0 rfl (by repeat' (first | exact trivial | exact rfl | refine ⟨?_, ?_⟩)) (Wk.of ?_); (try simp (etaStruct := .none) only [push_cast, Int.cast_ofNat_Int, Nat.reduceAdd, Nat.reduceSub, Nat.reduceMul, reduceCtorEq, reduceIte, Nat.reduceEqDiff, Nat.reduceLT, Nat.reduceLeDiff, Nat.reduceBEq, Int.reduceToNat, Int.reduceLE, Int.reduceLT]); first | done | (simp [leafI, *]; done) | (simp_all [leafI]; done)) | (refine ret0 rfl (by repeat' (first | exact trivial | exact rfl | refine ⟨?_, ?_⟩)) ?_; (try simp (etaStruct := .none) only [push_cast, Int.cast_ofNat_Int, Nat.reduceAdd, Nat.reduceSub, Nat.reduceMul, reduceCtorEq, reduceIte, Nat.reduceEqDiff, Nat.reduceLT, Nat.reduceLeDiff, Nat.reduceBEq, Int.reduceToNat, Int.reduceLE, Int.reduceLT]); (try simp [leafI, *]); (try (first | exact Wk.refl _ | exact Wk.nil _ | (refine Wk.tup ?_; repeat' (first | exact trivial | exact Wk.refl _ | exact Wk.nil _ | refine ⟨?_, ?_⟩ | (refine Wk.agg ?_)))))))
theorem rleaf_s (l : List Int) (hx : ∀ x ∈ l, I64 x) (hl : l.length ≤ 1000000) : Spec Try.prog 126 [.c (.sl 1 (l.map i64P))] [] (.c (.v (.int .u64 (leafI l : Nat)))) [] := by
  have := paR_size l
  refine spec_am Try.func126 rfl rfl mix 12 rfl [.tmp 2] Try.results126 (Nat.le_of_ble_eq_true rfl) ?_
  (try simp (etaStruct := .none) only [push_cast, Int.cast_ofNat_Int, Nat.reduceAdd, Nat.reduceSub, Nat.reduceMul, reduceCtorEq, reduceIte, Nat.reduceEqDiff, Nat.reduceLT, Nat.reduceLeDiff, Nat.reduceBEq, Int.reduceToNat, Int.reduceLE, Int.reduceLT]); (try simp (disch := omega) only [wrap_in, wk_self, Int.tdiv_eq_ediv_of_nonneg, Int.tmod_eq_emod_of_nonneg]); (repeat (with_reducible refine And.intro ?_ ?_; · first | omega | decide | (simp; done) | (simp; omega) | (intro hh; refine ⟨hh, ?_⟩; omega) | (simp +contextual; done)))
  refine callP (packedAll_s l hx (by omega)) (WkL.refl _) ?_
  (try simp (etaStruct := .none) only [push_cast, Int.cast_ofNat_Int, Nat.reduceAdd, Nat.reduceSub, Nat.reduceMul, reduceCtorEq, reduceIte, Nat.reduceEqDiff, Nat.reduceLT, Nat.reduceLeDiff, Nat.reduceBEq, Int.reduceToNat, Int.reduceLE, Int.reduceLT]); (try simp (disch := omega) only [wrap_in, wk_self, Int.tdiv_eq_ediv_of_nonneg, Int.tmod_eq_emod_of_nonneg]); (repeat (with_reducible refine And.intro ?_ ?_; · first | omega | decide | (simp; done) | (simp; omega) | (intro hh; refine ⟨hh, ?_⟩; omega) | (simp +contextual; done)))
  refine callP (leafOf_s (paR l).1 (by omega)) (WkL.refl _) ?_
  (try simp (etaStruct := .none) only [push_cast, Int.cast_ofNat_Int, Nat.reduceAdd, Nat.reduceSub, Nat.reduceMul, reduceCtorEq, reduceIte, Nat.reduceEqDiff, Nat.reduceLT, Nat.reduceLeDiff, Nat.reduceBEq, Int.reduceToNat, Int.reduceLE, Int.reduceLT]); (try simp (disch := omega) only [wrap_in, wk_self, Int.tdiv_eq_ediv_of_nonneg, Int.tmod_eq_emod_of_nonneg]); (repeat (with_reducible refine And.intro ?_ ?_; · first | omega | decide | (simp; done) | (simp; omega) | (intro hh; refine ⟨hh, ?_⟩; omega) | (simp +contextual; done)))
  (first | (refine ret0 rfl (by repeat' (first | exact trivial | exact rfl | refine ⟨?_, ?_⟩)) (Wk.of ?_); (try simp (etaStruct := .none) only [push_cast, Int.cast_ofNat_Int, Nat.reduceAdd, Nat.reduceSub, Nat.reduceMul, reduceCtorEq, reduceIte, Nat.reduceEqDiff, Nat.reduceLT, Nat.reduceLeDiff, Nat.reduceBEq, Int.reduceToNat, Int.reduceLE, Int.reduceLT]); first | done | (simp [leafI, *]; done) | (simp_all [leafI]; done)) | (refine ret0 rfl (by repeat' (first | exact trivial | exact rfl | refine ⟨?_, ?_⟩)) ?_; (try simp (etaStruct := .none) only [push_cast, Int.cast_ofNat_Int, Nat.reduceAdd, Nat.reduceSub, Nat.reduceMul, reduceCtorEq, reduceIte, Nat.reduceEqDiff, Nat.reduceLT, Nat.reduceLeDiff, Nat.reduceBEq, Int.reduceToNat, Int.reduceLE, Int.reduceLT]); (try simp [leafI, *]); (try (first | exact Wk.refl _ | exact Wk.nil _ | (refine Wk.tup ?_; repeat' (first | exact trivial | exact Wk.refl _ | exact Wk.nil _ | refine ⟨?_, ?_⟩ | (refine Wk.agg ?_)))))))
end Go.Proofs.Ytibknlfadoeglaa
namespace Go.Proofs.Ytibknlfadoeglaa
set_option linter.all false
open Go.RowKit
set_option maxRecDepth 100000
set_option maxHeartbeats 1000000
def hdI (w : Wld) : List Int := [1, w.f.w, w.f.h, w.next, w.now] ++ w.f.p
def basI (w : Wld) (i : Nat) : List Int := [2, (i : Int), (w.bases.getD i default).x, (w.bases.getD i default).y, w.stocks.getD i default]
def minI (w : Wld) (i : Nat) : List Int := [3, (i : Int), w.mines.getD i default]
def trpI (w : Wld) (i : Nat) : List Int := [4, (w.troops.getD i default).id, (w.troops.getD i default).owner, (w.troops.getD i default).kind, (w.troops.getD i default).c.x, (w.troops.getD i default).c.y, (w.troops.getD i default).life, (w.troops.getD i default).load]
def wl1 (w : Wld) (k : Nat) : List Nat := leafI (hdI w) :: (List.range k).map fun i => leafI (basI w i)
def wl2 (w : Wld) (k : Nat) : List Nat := wl1 w w.bases.length ++ (List.range k).flatMap fun i => if w.mines.getD i default = 0 then [] else [leafI (minI w i)]
def wl3 (w : Wld) (k : Nat) : List Nat := wl2 w w.mines.length ++ (List.range k).map fun i => leafI (trpI w i)
theorem wl1_0 (w : Wld) : wl1 w 0 = [leafI (hdI w)] := rfl
theorem wl2_0 (w : Wld) : wl2 w 0 = wl1 w w.bases.length := by simp [wl2]
theorem wl3_0 (w : Wld) : wl3 w 0 = wl2 w w.mines.length := by simp [wl3]
theorem wl1_s (w : Wld) (k : Nat) : wl1 w (k + 1) = wl1 w k ++ [leafI (basI w k)] := by simp [wl1, List.range_succ]
theorem wl2_s (w : Wld) (k : Nat) : wl2 w (k + 1) = wl2 w k ++ (if w.mines.getD k default = 0 then [] else [leafI (minI w k)]) := by
  unfold wl2; rw [List.range_succ, List.flatMap_append, ← List.append_assoc]; congr 1; exact List.flatMap_singleton ..
theorem wl3_s (w : Wld) (k : Nat) : wl3 w (k + 1) = wl3 w k ++ [leafI (trpI w k)] := by simp [wl3, List.range_succ]
theorem wl1_len (w : Wld) : ∀ k, (wl1 w k).length = k + 1 := by intro k; simp [wl1]
theorem wl2_len (w : Wld) : ∀ k, (wl2 w k).length ≤ w.bases.length + 1 + k
  | 0 => by rw [wl2_0, wl1_len]; omega
  | k + 1 => by
    have := wl2_len w k
    rw [wl2_s, List.length_append]; split <;> simp <;> omega
theorem wl3_len (w : Wld) (k : Nat) : (wl3 w k).length ≤ w.bases.length + 1 + w.mines.length + k := by
  have := wl2_len w w.mines.length
  unfold wl3; rw [List.length_append, List.length_map, List.length_range]; omega
def wmarkV (w : Wld) : Nat := mk 0 (wl3 w w.troops.length)
theorem world_b {w : Wld} (h : worldE w = 0) : (1 ≤ w.f.w ∧ w.f.w ≤ 40) ∧ (1 ≤ w.f.h ∧ w.f.h ≤ 40) ∧ (w.f.p.length ≤ 1600 ∧ ∀ p ∈ w.f.p, 0 ≤ p ∧ p < 4) ∧ w.bases.length ≤ 8 ∧ w.troops.length ≤ 100 ∧ w.stocks.length = w.bases.length ∧ w.mines.length = w.f.p.length ∧ (1 ≤ w.next ∧ w.next ≤ 1000000) ∧ (0 ≤ w.now ∧ w.now ≤ 1000000) ∧
    (∀ k, k < w.bases.length → (0 ≤ (w.bases.getD k default).x ∧ (w.bases.getD k default).x ≤ 39) ∧ (0 ≤ (w.bases.getD k default).y ∧ (w.bases.getD k default).y ≤ 39) ∧ 0 ≤ w.stocks.getD k default ∧ w.stocks.getD k default ≤ 1000000) ∧
    (∀ k, k < w.mines.length → 0 ≤ w.mines.getD k default ∧ w.mines.getD k default ≤ 1000000) := by
  obtain ⟨h1, h2, h3, h4, h5⟩ := worldE_ok h
  obtain ⟨g1, g2, g3, g4⟩ := fldE_ok h1
  obtain ⟨f1, f2, f3, f4⟩ := worldF_ok h4
  have hm2 : w.f.w * w.f.h ≤ 40 * 40 := Int.mul_le_mul g1.2 g2.2 (by omega) (by omega)
  unfold worldB at h5
  simp only [Bool.and_eq_true] at h5
  refine ⟨g1, g2, ⟨by omega, g4⟩, h2, h3, f1, f2, f3, f4, fun k hk => ?_, fun k hk => ?_⟩
  · have := (allN_iff _ _).1 h5.1.1 k hk
    unfold baseB at this
    simp only [Bool.and_eq_true, within_iff] at this
    have hi := inF_iff.1 (ground_iff.1 this.1.1).1
    omega
  · have := (allN_iff _ _).1 h5.1.2 k hk
    unfold mineB at this
    simp only [Bool.and_eq_true, within_iff] at this
    omega
theorem hdI_ok {w : Wld} (h : worldE w = 0) : (∀ x ∈ hdI w, I64 x) ∧ (hdI w).length ≤ 1000000 := by
  obtain ⟨b1, b2, b3, b4, b5, b6, b7, b8, b9, b10, b11⟩ := world_b h
  refine ⟨fun x hx => ?_, by simp [hdI]; omega⟩
  simp only [hdI, List.mem_append, List.mem_cons, List.not_mem_nil, or_false] at hx
  unfold I64
  rcases hx with (rfl | rfl | rfl | rfl | rfl) | hx
  · omega
  · omega
  · omega
  · omega
  · omega
  · have := b3.2 x hx; omega
theorem basI_ok {w : Wld} (h : worldE w = 0) {k : Nat} (hk : k < w.bases.length) : (∀ x ∈ basI w k, I64 x) ∧ (basI w k).length ≤ 1000000 := by
  obtain ⟨b1, b2, b3, b4, b5, b6, b7, b8, b9, b10, b11⟩ := world_b h
  have := b10 k hk
  refine ⟨fun x hx => ?_, by simp [basI]⟩
  simp only [basI, List.mem_cons, List.not_mem_nil, or_false] at hx
  unfold I64
  rcases hx with rfl | rfl | rfl | rfl | rfl <;> omega
theorem minI_ok {w : Wld} (h : worldE w = 0) {k : Nat} (hk : k < w.mines.length) : (∀ x ∈ minI w k, I64 x) ∧ (minI w k).length ≤ 1000000 := by
  obtain ⟨b1, b2, b3, b4, b5, b6, b7, b8, b9, b10, b11⟩ := world_b h
  have := b11 k hk
  refine ⟨fun x hx => ?_, by simp [minI]⟩
  simp only [minI, List.mem_cons, List.not_mem_nil, or_false] at hx
  unfold I64
  rcases hx with rfl | rfl | rfl <;> omega
theorem kindV_le {k : Int} : (kindV k).life ≤ 20 := by unfold kindV; split; decide; split <;> decide
theorem trpI_ok {w : Wld} (h : worldE w = 0) {k : Nat} (hk : k < w.troops.length) : (∀ x ∈ trpI w k, I64 x) ∧ (trpI w k).length ≤ 1000000 := by
  obtain ⟨b1, b2, b3, b4, b5, b6, b7, b8, b9, b10, b11⟩ := world_b h
  obtain ⟨t1, t2, t3, t4, t5, t6, t7, t8⟩ := (troop_ok h hk).1
  have kl := @kindV_le (w.troops.getD k default).kind
  refine ⟨fun x hx => ?_, by simp [trpI]⟩
  simp only [trpI, List.mem_cons, List.not_mem_nil, or_false] at hx
  unfold I64
  rcases hx with rfl | rfl | rfl | rfl | rfl | rfl | rfl | rfl <;> omega
theorem worldMark_s (w : Wld) (hw : worldE w = 0) : Spec Try.prog 71 [wldA w] [] (.c (.v (.int .u64 (wmarkV w : Nat)))) [] := by
  obtain ⟨b1, b2, b3, b4, b5, b6, b7, b8, b9, b10, b11⟩ := world_b hw
  have h0 := hdI_ok hw
  refine spec_am Try.func71 rfl rfl mix 102 rfl [.tmp 2] Try.results71 (Nat.le_of_ble_eq_true rfl) ?_
  (try simp (etaStruct := .none) only [push_cast, Int.cast_ofNat_Int, Nat.reduceAdd, Nat.reduceSub, Nat.reduceMul, reduceCtorEq, reduceIte, Nat.reduceEqDiff, Nat.reduceLT, Nat.reduceLeDiff, Nat.reduceBEq, Int.reduceToNat, Int.reduceLE, Int.reduceLT]); (try simp (disch := omega) only [wrap_in, wk_self, Int.tdiv_eq_ediv_of_nonneg, Int.tmod_eq_emod_of_nonneg]); (repeat (with_reducible refine And.intro ?_ ?_; · first | omega | decide | (simp; done) | (simp; omega) | (intro hh; refine ⟨hh, ?_⟩; omega) | (simp +contextual; done)))
  refine callB (rleaf_s (hdI w) h0.1 h0.2) (WkL.refl _) rfl ?_
  (try simp (etaStruct := .none) only [push_cast, Int.cast_ofNat_Int, Nat.reduceAdd, Nat.reduceSub, Nat.reduceMul, reduceCtorEq, reduceIte, Nat.reduceEqDiff, Nat.reduceLT, Nat.reduceLeDiff, Nat.reduceBEq, Int.reduceToNat, Int.reduceLE, Int.reduceLT]); (try simp (disch := omega) only [wrap_in, wk_self, Int.tdiv_eq_ediv_of_nonneg, Int.tmod_eq_emod_of_nonneg]); (repeat (with_reducible refine And.intro ?_ ?_; · first | omega | decide | (simp; done) | (simp; omega) | (intro hh; refine ⟨hh, ?_⟩; omega) | (simp +contextual; done)))
  refine loopI (fun k : Nat => ⟨[(32, I .i64 k), (31, I .i64 w.bases.length), (30, .c (.sl 2 (w.bases.map celP))), (4, .own 1), (1, .ptr 0 0 0)], [(0, .blk 86 (wldC w)), (1, .row 67 1 ((wl1 w k).map u64P))], 2⟩) (fun k : Nat => k ≤ w.bases.length) (fun k : Nat => w.bases.length - k) (0) (Nat.zero_le _) (To.mk [0, 3] rfl rfl (by decide) ?_ ?_) ?_
  · simp (etaStruct := .none) only [push_cast, Int.cast_ofNat_Int, Nat.reduceAdd, Nat.reduceSub, Nat.reduceMul, reduceCtorEq, reduceIte, Nat.reduceEqDiff, Nat.reduceLT, Nat.reduceLeDiff, Nat.reduceBEq, Int.reduceToNat, Int.reduceLE, Int.reduceLT, wl1_0, u64P]
  · simp (etaStruct := .none) only [push_cast, Int.cast_ofNat_Int, Nat.reduceAdd, Nat.reduceSub, Nat.reduceMul, reduceCtorEq, reduceIte, Nat.reduceEqDiff, Nat.reduceLT, Nat.reduceLeDiff, Nat.reduceBEq, Int.reduceToNat, Int.reduceLE, Int.reduceLT]
  rintro k hk
  (try simp (etaStruct := .none) only [push_cast, Int.cast_ofNat_Int, Nat.reduceAdd, Nat.reduceSub, Nat.reduceMul, reduceCtorEq, reduceIte, Nat.reduceEqDiff, Nat.reduceLT, Nat.reduceLeDiff, Nat.reduceBEq, Int.reduceToNat, Int.reduceLE, Int.reduceLT]); (try simp (disch := omega) only [wrap_in, wk_self, Int.tdiv_eq_ediv_of_nonneg, Int.tmod_eq_emod_of_nonneg]); (repeat (with_reducible refine And.intro ?_ ?_; · first | omega | decide | (simp; done) | (simp; omega) | (intro hh; refine ⟨hh, ?_⟩; omega) | (simp +contextual; done)))
  refine cond_i (fun h1 => ?_) (fun h1 => ?_)
  · (try simp only [decide_eq_true_eq, decide_eq_false_iff_not, Bool.not_eq_true', Bool.not_eq_false', Bool.or_eq_true, Bool.and_eq_true, Bool.or_eq_false_iff, Bool.and_eq_false_iff, Int.not_lt, Int.not_le, Bool.not_true, Bool.not_false, not_and, not_or] at h1)
    have hlt : k < w.bases.length := by omega
    have hlt2 : k < w.stocks.length := by omega
    have ok := basI_ok hw hlt
    have ln := wl1_len w k
    (try simp (etaStruct := .none) only [push_cast, Int.cast_ofNat_Int, Nat.reduceAdd, Nat.reduceSub, Nat.reduceMul, reduceCtorEq, reduceIte, Nat.reduceEqDiff, Nat.reduceLT, Nat.reduceLeDiff, Nat.reduceBEq, Int.reduceToNat, Int.reduceLE, Int.reduceLT, getD_in _ _ _ hlt, getD_in _ _ _ hlt2, celP, i64P]); (try simp (disch := omega) only [wrap_in, wk_self, Int.tdiv_eq_ediv_of_nonneg, Int.tmod_eq_emod_of_nonneg]); (repeat (with_reducible refine And.intro ?_ ?_; · first | omega | decide | (simp; done) | (simp; omega) | (intro hh; refine ⟨hh, ?_⟩; omega) | (simp +contextual; done))); (try simp (etaStruct := .none) only [push_cast, Int.cast_ofNat_Int, Nat.reduceAdd, Nat.reduceSub, Nat.reduceMul, reduceCtorEq, reduceIte, Nat.reduceEqDiff, Nat.reduceLT, Nat.reduceLeDiff, Nat.reduceBEq, Int.reduceToNat, Int.reduceLE, Int.reduceLT, getD_in _ _ _ hlt, getD_in _ _ _ hlt2, celP, i64P]); (try simp (disch := omega) only [wrap_in, wk_self, Int.tdiv_eq_ediv_of_nonneg, Int.tmod_eq_emod_of_nonneg]); (repeat (with_reducible refine And.intro ?_ ?_; · first | omega | decide | (simp; done) | (simp; omega) | (intro hh; refine ⟨hh, ?_⟩; omega) | (simp +contextual; done)))
    refine callB (rleaf_s (basI w k) ok.1 ok.2) (WkL.refl _) rfl ?_
    (try simp (etaStruct := .none) only [push_cast, Int.cast_ofNat_Int, Nat.reduceAdd, Nat.reduceSub, Nat.reduceMul, reduceCtorEq, reduceIte, Nat.reduceEqDiff, Nat.reduceLT, Nat.reduceLeDiff, Nat.reduceBEq, Int.reduceToNat, Int.reduceLE, Int.reduceLT, getD_in _ _ _ hlt, getD_in _ _ _ hlt2, celP, i64P]); (try simp (disch := omega) only [wrap_in, wk_self, Int.tdiv_eq_ediv_of_nonneg, Int.tmod_eq_emod_of_nonneg]); (repeat (with_reducible refine And.intro ?_ ?_; · first | omega | decide | (simp; done) | (simp; omega) | (intro hh; refine ⟨hh, ?_⟩; omega) | (simp +contextual; done))); (try simp (etaStruct := .none) only [push_cast, Int.cast_ofNat_Int, Nat.reduceAdd, Nat.reduceSub, Nat.reduceMul, reduceCtorEq, reduceIte, Nat.reduceEqDiff, Nat.reduceLT, Nat.reduceLeDiff, Nat.reduceBEq, Int.reduceToNat, Int.reduceLE, Int.reduceLT, getD_in _ _ _ hlt, getD_in _ _ _ hlt2, celP, i64P]); (try simp (disch := omega) only [wrap_in, wk_self, Int.tdiv_eq_ediv_of_nonneg, Int.tmod_eq_emod_of_nonneg]); (repeat (with_reducible refine And.intro ?_ ?_; · first | omega | decide | (simp; done) | (simp; omega) | (intro hh; refine ⟨hh, ?_⟩; omega) | (simp +contextual; done)))
    (try (refine ⟨by kernel_rfl, ?_⟩))
    (try simp (etaStruct := .none) only [push_cast, Int.cast_ofNat_Int, Nat.reduceAdd, Nat.reduceSub, Nat.reduceMul, reduceCtorEq, reduceIte, Nat.reduceEqDiff, Nat.reduceLT, Nat.reduceLeDiff, Nat.reduceBEq, Int.reduceToNat, Int.reduceLE, Int.reduceLT, getD_in _ _ _ hlt, getD_in _ _ _ hlt2, celP, i64P]); (try simp (disch := omega) only [wrap_in, wk_self, Int.tdiv_eq_ediv_of_nonneg, Int.tmod_eq_emod_of_nonneg]); (repeat (with_reducible refine And.intro ?_ ?_; · first | omega | decide | (simp; done) | (simp; omega) | (intro hh; refine ⟨hh, ?_⟩; omega) | (simp +contextual; done))); (try simp (etaStruct := .none) only [push_cast, Int.cast_ofNat_Int, Nat.reduceAdd, Nat.reduceSub, Nat.reduceMul, reduceCtorEq, reduceIte, Nat.reduceEqDiff, Nat.reduceLT, Nat.reduceLeDiff, Nat.reduceBEq, Int.reduceToNat, Int.reduceLE, Int.reduceLT, getD_in _ _ _ hlt, getD_in _ _ _ hlt2, celP, i64P]); (try simp (disch := omega) only [wrap_in, wk_self, Int.tdiv_eq_ediv_of_nonneg, Int.tmod_eq_emod_of_nonneg]); (repeat (with_reducible refine And.intro ?_ ?_; · first | omega | decide | (simp; done) | (simp; omega) | (intro hh; refine ⟨hh, ?_⟩; omega) | (simp +contextual; done)))
    refine ⟨k + 1, by omega, by omega, To.mk [0, 59] rfl rfl (by decide) ?_ ?_⟩
    · (try simp (etaStruct := .none) only [push_cast, Int.cast_ofNat_Int, Nat.reduceAdd, Nat.reduceSub, Nat.reduceMul, reduceCtorEq, reduceIte, Nat.reduceEqDiff, Nat.reduceLT, Nat.reduceLeDiff, Nat.reduceBEq, Int.reduceToNat, Int.reduceLE, Int.reduceLT, wl1_s, List.map_append, u64P]); (try simp (disch := omega) only [wrap_in, wk_self, Int.tdiv_eq_ediv_of_nonneg, Int.tmod_eq_emod_of_nonneg]); (repeat (with_reducible refine And.intro ?_ ?_; · first | omega | decide | (simp; done) | (simp; omega) | (intro hh; refine ⟨hh, ?_⟩; omega) | (simp +contextual; done))); (try simp (etaStruct := .none) only [push_cast, Int.cast_ofNat_Int, Nat.reduceAdd, Nat.reduceSub, Nat.reduceMul, reduceCtorEq, reduceIte, Nat.reduceEqDiff, Nat.reduceLT, Nat.reduceLeDiff, Nat.reduceBEq, Int.reduceToNat, Int.reduceLE, Int.reduceLT, wl1_s, List.map_append, u64P]); (try simp (disch := omega) only [wrap_in, wk_self, Int.tdiv_eq_ediv_of_nonneg, Int.tmod_eq_emod_of_nonneg]); (repeat (with_reducible refine And.intro ?_ ?_; · first | omega | decide | (simp; done) | (simp; omega) | (intro hh; refine ⟨hh, ?_⟩; omega) | (simp +contextual; done)))
    · (try simp (etaStruct := .none) only [push_cast, Int.cast_ofNat_Int, Nat.reduceAdd, Nat.reduceSub, Nat.reduceMul, reduceCtorEq, reduceIte, Nat.reduceEqDiff, Nat.reduceLT, Nat.reduceLeDiff, Nat.reduceBEq, Int.reduceToNat, Int.reduceLE, Int.reduceLT, getD_in _ _ _ hlt, getD_in _ _ _ hlt2, celP, i64P]); (try simp (disch := omega) only [wrap_in, wk_self, Int.tdiv_eq_ediv_of_nonneg, Int.tmod_eq_emod_of_nonneg]); (repeat (with_reducible refine And.intro ?_ ?_; · first | omega | decide | (simp; done) | (simp; omega) | (intro hh; refine ⟨hh, ?_⟩; omega) | (simp +contextual; done))); (try simp (etaStruct := .none) only [push_cast, Int.cast_ofNat_Int, Nat.reduceAdd, Nat.reduceSub, Nat.reduceMul, reduceCtorEq, reduceIte, Nat.reduceEqDiff, Nat.reduceLT, Nat.reduceLeDiff, Nat.reduceBEq, Int.reduceToNat, Int.reduceLE, Int.reduceLT, getD_in _ _ _ hlt, getD_in _ _ _ hlt2, celP, i64P]); (try simp (disch := omega) only [wrap_in, wk_self, Int.tdiv_eq_ediv_of_nonneg, Int.tmod_eq_emod_of_nonneg]); (repeat (with_reducible refine And.intro ?_ ?_; · first | omega | decide | (simp; done) | (simp; omega) | (intro hh; refine ⟨hh, ?_⟩; omega) | (simp +contextual; done)))
  · (try simp only [decide_eq_true_eq, decide_eq_false_iff_not, Bool.not_eq_true', Bool.not_eq_false', Bool.or_eq_true, Bool.and_eq_true, Bool.or_eq_false_iff, Bool.and_eq_false_iff, Int.not_lt, Int.not_le, Bool.not_true, Bool.not_false, not_and, not_or] at h1)
    obtain rfl : k = w.bases.length := by omega
    (try simp (etaStruct := .none) only [push_cast, Int.cast_ofNat_Int, Nat.reduceAdd, Nat.reduceSub, Nat.reduceMul, reduceCtorEq, reduceIte, Nat.reduceEqDiff, Nat.reduceLT, Nat.reduceLeDiff, Nat.reduceBEq, Int.reduceToNat, Int.reduceLE, Int.reduceLT]); (try simp (disch := omega) only [wrap_in, wk_self, Int.tdiv_eq_ediv_of_nonneg, Int.tmod_eq_emod_of_nonneg]); (repeat (with_reducible refine And.intro ?_ ?_; · first | omega | decide | (simp; done) | (simp; omega) | (intro hh; refine ⟨hh, ?_⟩; omega) | (simp +contextual; done)))
    refine loopI (fun k : Nat => ⟨[(56, I .i64 k), (55, I .i64 w.mines.length), (54, .c (.sl 1 (w.mines.map i64P))), (4, .own 1), (1, .ptr 0 0 0)], [(0, .blk 86 (wldC w)), (1, .row 67 1 ((wl2 w k).map u64P))], 2⟩) (fun k : Nat => k ≤ w.mines.length) (fun k : Nat => w.mines.length - k) (0) (Nat.zero_le _) (To.mk [0, 1] rfl rfl (by decide) ?_ ?_) ?_
    · simp (etaStruct := .none) only [push_cast, Int.cast_ofNat_Int, Nat.reduceAdd, Nat.reduceSub, Nat.reduceMul, reduceCtorEq, reduceIte, Nat.reduceEqDiff, Nat.reduceLT, Nat.reduceLeDiff, Nat.reduceBEq, Int.reduceToNat, Int.reduceLE, Int.reduceLT, wl2_0]
    · simp (etaStruct := .none) only [push_cast, Int.cast_ofNat_Int, Nat.reduceAdd, Nat.reduceSub, Nat.reduceMul, reduceCtorEq, reduceIte, Nat.reduceEqDiff, Nat.reduceLT, Nat.reduceLeDiff, Nat.reduceBEq, Int.reduceToNat, Int.reduceLE, Int.reduceLT]
    rintro k hk
    (try simp (etaStruct := .none) only [push_cast, Int.cast_ofNat_Int, Nat.reduceAdd, Nat.reduceSub, Nat.reduceMul, reduceCtorEq, reduceIte, Nat.reduceEqDiff, Nat.reduceLT, Nat.reduceLeDiff, Nat.reduceBEq, Int.reduceToNat, Int.reduceLE, Int.reduceLT]); (try simp (disch := omega) only [wrap_in, wk_self, Int.tdiv_eq_ediv_of_nonneg, Int.tmod_eq_emod_of_nonneg]); (repeat (with_reducible refine And.intro ?_ ?_; · first | omega | decide | (simp; done) | (simp; omega) | (intro hh; refine ⟨hh, ?_⟩; omega) | (simp +contextual; done)))
    refine cond_i (fun h2 => ?_) (fun h2 => ?_)
    · (try simp only [decide_eq_true_eq, decide_eq_false_iff_not, Bool.not_eq_true', Bool.not_eq_false', Bool.or_eq_true, Bool.and_eq_true, Bool.or_eq_false_iff, Bool.and_eq_false_iff, Int.not_lt, Int.not_le, Bool.not_true, Bool.not_false, not_and, not_or] at h2)
      have hlt : k < w.mines.length := by omega
      have ok := minI_ok hw hlt
      have ln := wl2_len w k
      have bm := b11 k hlt
      have st := wl2_s w k
      (try simp (etaStruct := .none) only [push_cast, Int.cast_ofNat_Int, Nat.reduceAdd, Nat.reduceSub, Nat.reduceMul, reduceCtorEq, reduceIte, Nat.reduceEqDiff, Nat.reduceLT, Nat.reduceLeDiff, Nat.reduceBEq, Int.reduceToNat, Int.reduceLE, Int.reduceLT, getD_in _ _ _ hlt, i64P]); (try simp (disch := omega) only [wrap_in, wk_self, Int.tdiv_eq_ediv_of_nonneg, Int.tmod_eq_emod_of_nonneg]); (repeat (with_reducible refine And.intro ?_ ?_; · first | omega | decide | (simp; done) | (simp; omega) | (intro hh; refine ⟨hh, ?_⟩; omega) | (simp +contextual; done))); (try simp (etaStruct := .none) only [push_cast, Int.cast_ofNat_Int, Nat.reduceAdd, Nat.reduceSub, Nat.reduceMul, reduceCtorEq, reduceIte, Nat.reduceEqDiff, Nat.reduceLT, Nat.reduceLeDiff, Nat.reduceBEq, Int.reduceToNat, Int.reduceLE, Int.reduceLT, getD_in _ _ _ hlt, i64P]); (try simp (disch := omega) only [wrap_in, wk_self, Int.tdiv_eq_ediv_of_nonneg, Int.tmod_eq_emod_of_nonneg]); (repeat (with_reducible refine And.intro ?_ ?_; · first | omega | decide | (simp; done) | (simp; omega) | (intro hh; refine ⟨hh, ?_⟩; omega) | (simp +contextual; done)))
      refine cond_i (fun h3 => ?_) (fun h3 => ?_)
      · (try simp only [decide_eq_true_eq, decide_eq_false_iff_not, Bool.not_eq_true', Bool.not_eq_false', Bool.or_eq_true, Bool.and_eq_true, Bool.or_eq_false_iff, Bool.and_eq_false_iff, Int.not_lt, Int.not_le, Bool.not_true, Bool.not_false, not_and, not_or] at h3)
        rw [if_neg (by omega)] at st
        (try simp (etaStruct := .none) only [push_cast, Int.cast_ofNat_Int, Nat.reduceAdd, Nat.reduceSub, Nat.reduceMul, reduceCtorEq, reduceIte, Nat.reduceEqDiff, Nat.reduceLT, Nat.reduceLeDiff, Nat.reduceBEq, Int.reduceToNat, Int.reduceLE, Int.reduceLT, getD_in _ _ _ hlt, i64P]); (try simp (disch := omega) only [wrap_in, wk_self, Int.tdiv_eq_ediv_of_nonneg, Int.tmod_eq_emod_of_nonneg]); (repeat (with_reducible refine And.intro ?_ ?_; · first | omega | decide | (simp; done) | (simp; omega) | (intro hh; refine ⟨hh, ?_⟩; omega) | (simp +contextual; done))); (try simp (etaStruct := .none) only [push_cast, Int.cast_ofNat_Int, Nat.reduceAdd, Nat.reduceSub, Nat.reduceMul, reduceCtorEq, reduceIte, Nat.reduceEqDiff, Nat.reduceLT, Nat.reduceLeDiff, Nat.reduceBEq, Int.reduceToNat, Int.reduceLE, Int.reduceLT, getD_in _ _ _ hlt, i64P]); (try simp (disch := omega) only [wrap_in, wk_self, Int.tdiv_eq_ediv_of_nonneg, Int.tmod_eq_emod_of_nonneg]); (repeat (with_reducible refine And.intro ?_ ?_; · first | omega | decide | (simp; done) | (simp; omega) | (intro hh; refine ⟨hh, ?_⟩; omega) | (simp +contextual; done)))
        refine callB (rleaf_s (minI w k) ok.1 ok.2) (WkL.refl _) rfl ?_
        (try simp (etaStruct := .none) only [push_cast, Int.cast_ofNat_Int, Nat.reduceAdd, Nat.reduceSub, Nat.reduceMul, reduceCtorEq, reduceIte, Nat.reduceEqDiff, Nat.reduceLT, Nat.reduceLeDiff, Nat.reduceBEq, Int.reduceToNat, Int.reduceLE, Int.reduceLT, getD_in _ _ _ hlt, i64P]); (try simp (disch := omega) only [wrap_in, wk_self, Int.tdiv_eq_ediv_of_nonneg, Int.tmod_eq_emod_of_nonneg]); (repeat (with_reducible refine And.intro ?_ ?_; · first | omega | decide | (simp; done) | (simp; omega) | (intro hh; refine ⟨hh, ?_⟩; omega) | (simp +contextual; done))); (try simp (etaStruct := .none) only [push_cast, Int.cast_ofNat_Int, Nat.reduceAdd, Nat.reduceSub, Nat.reduceMul, reduceCtorEq, reduceIte, Nat.reduceEqDiff, Nat.reduceLT, Nat.reduceLeDiff, Nat.reduceBEq, Int.reduceToNat, Int.reduceLE, Int.reduceLT, getD_in _ _ _ hlt, i64P]); (try simp (disch := omega) only [wrap_in, wk_self, Int.tdiv_eq_ediv_of_nonneg, Int.tmod_eq_emod_of_nonneg]); (repeat (with_reducible refine And.intro ?_ ?_; · first | omega | decide | (simp; done) | (simp; omega) | (intro hh; refine ⟨hh, ?_⟩; omega) | (simp +contextual; done)))
        refine ⟨k + 1, by omega, by omega, To.mk [0, 4] rfl rfl (by decide) ?_ ?_⟩
        · (try simp (etaStruct := .none) only [push_cast, Int.cast_ofNat_Int, Nat.reduceAdd, Nat.reduceSub, Nat.reduceMul, reduceCtorEq, reduceIte, Nat.reduceEqDiff, Nat.reduceLT, Nat.reduceLeDiff, Nat.reduceBEq, Int.reduceToNat, Int.reduceLE, Int.reduceLT, st, List.map_append, u64P]); (try simp (disch := omega) only [wrap_in, wk_self, Int.tdiv_eq_ediv_of_nonneg, Int.tmod_eq_emod_of_nonneg]); (repeat (with_reducible refine And.intro ?_ ?_; · first | omega | decide | (simp; done) | (simp; omega) | (intro hh; refine ⟨hh, ?_⟩; omega) | (simp +contextual; done))); (try simp (etaStruct := .none) only [push_cast, Int.cast_ofNat_Int, Nat.reduceAdd, Nat.reduceSub, Nat.reduceMul, reduceCtorEq, reduceIte, Nat.reduceEqDiff, Nat.reduceLT, Nat.reduceLeDiff, Nat.reduceBEq, Int.reduceToNat, Int.reduceLE, Int.reduceLT, st, List.map_append, u64P]); (try simp (disch := omega) only [wrap_in, wk_self, Int.tdiv_eq_ediv_of_nonneg, Int.tmod_eq_emod_of_nonneg]); (repeat (with_reducible refine And.intro ?_ ?_; · first | omega | decide | (simp; done) | (simp; omega) | (intro hh; refine ⟨hh, ?_⟩; omega) | (simp +contextual; done)))
        · (try simp (etaStruct := .none) only [push_cast, Int.cast_ofNat_Int, Nat.reduceAdd, Nat.reduceSub, Nat.reduceMul, reduceCtorEq, reduceIte, Nat.reduceEqDiff, Nat.reduceLT, Nat.reduceLeDiff, Nat.reduceBEq, Int.reduceToNat, Int.reduceLE, Int.reduceLT, getD_in _ _ _ hlt, i64P]); (try simp (disch := omega) only [wrap_in, wk_self, Int.tdiv_eq_ediv_of_nonneg, Int.tmod_eq_emod_of_nonneg]); (repeat (with_reducible refine And.intro ?_ ?_; · first | omega | decide | (simp; done) | (simp; omega) | (intro hh; refine ⟨hh, ?_⟩; omega) | (simp +contextual; done))); (try simp (etaStruct := .none) only [push_cast, Int.cast_ofNat_Int, Nat.reduceAdd, Nat.reduceSub, Nat.reduceMul, reduceCtorEq, reduceIte, Nat.reduceEqDiff, Nat.reduceLT, Nat.reduceLeDiff, Nat.reduceBEq, Int.reduceToNat, Int.reduceLE, Int.reduceLT, getD_in _ _ _ hlt, i64P]); (try simp (disch := omega) only [wrap_in, wk_self, Int.tdiv_eq_ediv_of_nonneg, Int.tmod_eq_emod_of_nonneg]); (repeat (with_reducible refine And.intro ?_ ?_; · first | omega | decide | (simp; done) | (simp; omega) | (intro hh; refine ⟨hh, ?_⟩; omega) | (simp +contextual; done)))
      · (try simp only [decide_eq_true_eq, decide_eq_false_iff_not, Bool.not_eq_true', Bool.not_eq_false', Bool.or_eq_true, Bool.and_eq_true, Bool.or_eq_false_iff, Bool.and_eq_false_iff, Int.not_lt, Int.not_le, Bool.not_true, Bool.not_false, not_and, not_or] at h3)
        rw [if_pos (by omega), List.append_nil] at st
        (try simp (etaStruct := .none) only [push_cast, Int.cast_ofNat_Int, Nat.reduceAdd, Nat.reduceSub, Nat.reduceMul, reduceCtorEq, reduceIte, Nat.reduceEqDiff, Nat.reduceLT, Nat.reduceLeDiff, Nat.reduceBEq, Int.reduceToNat, Int.reduceLE, Int.reduceLT, getD_in _ _ _ hlt, i64P]); (try simp (disch := omega) only [wrap_in, wk_self, Int.tdiv_eq_ediv_of_nonneg, Int.tmod_eq_emod_of_nonneg]); (repeat (with_reducible refine And.intro ?_ ?_; · first | omega | decide | (simp; done) | (simp; omega) | (intro hh; refine ⟨hh, ?_⟩; omega) | (simp +contextual; done))); (try simp (etaStruct := .none) only [push_cast, Int.cast_ofNat_Int, Nat.reduceAdd, Nat.reduceSub, Nat.reduceMul, reduceCtorEq, reduceIte, Nat.reduceEqDiff, Nat.reduceLT, Nat.reduceLeDiff, Nat.reduceBEq, Int.reduceToNat, Int.reduceLE, Int.reduceLT, getD_in _ _ _ hlt, i64P]); (try simp (disch := omega) only [wrap_in, wk_self, Int.tdiv_eq_ediv_of_nonneg, Int.tmod_eq_emod_of_nonneg]); (repeat (with_reducible refine And.intro ?_ ?_; · first | omega | decide | (simp; done) | (simp; omega) | (intro hh; refine ⟨hh, ?_⟩; omega) | (simp +contextual; done)))
        refine ⟨k + 1, by omega, by omega, To.mk [0, 1] rfl rfl (by decide) ?_ ?_⟩
        · (try simp (etaStruct := .none) only [push_cast, Int.cast_ofNat_Int, Nat.reduceAdd, Nat.reduceSub, Nat.reduceMul, reduceCtorEq, reduceIte, Nat.reduceEqDiff, Nat.reduceLT, Nat.reduceLeDiff, Nat.reduceBEq, Int.reduceToNat, Int.reduceLE, Int.reduceLT, st]); (try simp (disch := omega) only [wrap_in, wk_self, Int.tdiv_eq_ediv_of_nonneg, Int.tmod_eq_emod_of_nonneg]); (repeat (with_reducible refine And.intro ?_ ?_; · first | omega | decide | (simp; done) | (simp; omega) | (intro hh; refine ⟨hh, ?_⟩; omega) | (simp +contextual; done))); (try simp (etaStruct := .none) only [push_cast, Int.cast_ofNat_Int, Nat.reduceAdd, Nat.reduceSub, Nat.reduceMul, reduceCtorEq, reduceIte, Nat.reduceEqDiff, Nat.reduceLT, Nat.reduceLeDiff, Nat.reduceBEq, Int.reduceToNat, Int.reduceLE, Int.reduceLT, st]); (try simp (disch := omega) only [wrap_in, wk_self, Int.tdiv_eq_ediv_of_nonneg, Int.tmod_eq_emod_of_nonneg]); (repeat (with_reducible refine And.intro ?_ ?_; · first | omega | decide | (simp; done) | (simp; omega) | (intro hh; refine ⟨hh, ?_⟩; omega) | (simp +contextual; done)))
        · (try simp (etaStruct := .none) only [push_cast, Int.cast_ofNat_Int, Nat.reduceAdd, Nat.reduceSub, Nat.reduceMul, reduceCtorEq, reduceIte, Nat.reduceEqDiff, Nat.reduceLT, Nat.reduceLeDiff, Nat.reduceBEq, Int.reduceToNat, Int.reduceLE, Int.reduceLT, getD_in _ _ _ hlt, i64P]); (try simp (disch := omega) only [wrap_in, wk_self, Int.tdiv_eq_ediv_of_nonneg, Int.tmod_eq_emod_of_nonneg]); (repeat (with_reducible refine And.intro ?_ ?_; · first | omega | decide | (simp; done) | (simp; omega) | (intro hh; refine ⟨hh, ?_⟩; omega) | (simp +contextual; done))); (try simp (etaStruct := .none) only [push_cast, Int.cast_ofNat_Int, Nat.reduceAdd, Nat.reduceSub, Nat.reduceMul, reduceCtorEq, reduceIte, Nat.reduceEqDiff, Nat.reduceLT, Nat.reduceLeDiff, Nat.reduceBEq, Int.reduceToNat, Int.reduceLE, Int.reduceLT, getD_in _ _ _ hlt, i64P]); (try simp (disch := omega) only [wrap_in, wk_self, Int.tdiv_eq_ediv_of_nonneg, Int.tmod_eq_emod_of_nonneg]); (repeat (with_reducible refine And.intro ?_ ?_; · first | omega | decide | (simp; done) | (simp; omega) | (intro hh; refine ⟨hh, ?_⟩; omega) | (simp +contextual; done)))
    · (try simp only [decide_eq_true_eq, decide_eq_false_iff_not, Bool.not_eq_true', Bool.not_eq_false', Bool.or_eq_true, Bool.and_eq_true, Bool.or_eq_false_iff, Bool.and_eq_false_iff, Int.not_lt, Int.not_le, Bool.not_true, Bool.not_false, not_and, not_or] at h2)
      obtain rfl : k = w.mines.length := by omega
      (try simp (etaStruct := .none) only [push_cast, Int.cast_ofNat_Int, Nat.reduceAdd, Nat.reduceSub, Nat.reduceMul, reduceCtorEq, reduceIte, Nat.reduceEqDiff, Nat.reduceLT, Nat.reduceLeDiff, Nat.reduceBEq, Int.reduceToNat, Int.reduceLE, Int.reduceLT]); (try simp (disch := omega) only [wrap_in, wk_self, Int.tdiv_eq_ediv_of_nonneg, Int.tmod_eq_emod_of_nonneg]); (repeat (with_reducible refine And.intro ?_ ?_; · first | omega | decide | (simp; done) | (simp; omega) | (intro hh; refine ⟨hh, ?_⟩; omega) | (simp +contextual; done)))
      refine loopI (fun k : Nat => ⟨[(74, I .i64 k), (73, I .i64 w.troops.length), (72, .c (.sl 7 (w.troops.map trpP))), (4, .own 0)], [(0, .row 67 1 ((wl3 w k).map u64P))], 1⟩) (fun k : Nat => k ≤ w.troops.length) (fun k : Nat => w.troops.length - k) (0) (Nat.zero_le _) (To.mk [1] rfl rfl (by decide) ?_ ?_) ?_
      · simp (etaStruct := .none) only [push_cast, Int.cast_ofNat_Int, Nat.reduceAdd, Nat.reduceSub, Nat.reduceMul, reduceCtorEq, reduceIte, Nat.reduceEqDiff, Nat.reduceLT, Nat.reduceLeDiff, Nat.reduceBEq, Int.reduceToNat, Int.reduceLE, Int.reduceLT, wl3_0]
      · simp (etaStruct := .none) only [push_cast, Int.cast_ofNat_Int, Nat.reduceAdd, Nat.reduceSub, Nat.reduceMul, reduceCtorEq, reduceIte, Nat.reduceEqDiff, Nat.reduceLT, Nat.reduceLeDiff, Nat.reduceBEq, Int.reduceToNat, Int.reduceLE, Int.reduceLT]
      rintro k hk
      (try simp (etaStruct := .none) only [push_cast, Int.cast_ofNat_Int, Nat.reduceAdd, Nat.reduceSub, Nat.reduceMul, reduceCtorEq, reduceIte, Nat.reduceEqDiff, Nat.reduceLT, Nat.reduceLeDiff, Nat.reduceBEq, Int.reduceToNat, Int.reduceLE, Int.reduceLT]); (try simp (disch := omega) only [wrap_in, wk_self, Int.tdiv_eq_ediv_of_nonneg, Int.tmod_eq_emod_of_nonneg]); (repeat (with_reducible refine And.intro ?_ ?_; · first | omega | decide | (simp; done) | (simp; omega) | (intro hh; refine ⟨hh, ?_⟩; omega) | (simp +contextual; done)))
      refine cond_i (fun h4 => ?_) (fun h4 => ?_)
      · (try simp only [decide_eq_true_eq, decide_eq_false_iff_not, Bool.not_eq_true', Bool.not_eq_false', Bool.or_eq_true, Bool.and_eq_true, Bool.or_eq_false_iff, Bool.and_eq_false_iff, Int.not_lt, Int.not_le, Bool.not_true, Bool.not_false, not_and, not_or] at h4)
        have hlt : k < w.troops.length := by omega
        have ok := trpI_ok hw hlt
        have ln := wl3_len w k
        (try simp (etaStruct := .none) only [push_cast, Int.cast_ofNat_Int, Nat.reduceAdd, Nat.reduceSub, Nat.reduceMul, reduceCtorEq, reduceIte, Nat.reduceEqDiff, Nat.reduceLT, Nat.reduceLeDiff, Nat.reduceBEq, Int.reduceToNat, Int.reduceLE, Int.reduceLT, getD_in _ _ _ hlt, trpP]); (try simp (disch := omega) only [wrap_in, wk_self, Int.tdiv_eq_ediv_of_nonneg, Int.tmod_eq_emod_of_nonneg]); (repeat (with_reducible refine And.intro ?_ ?_; · first | omega | decide | (simp; done) | (simp; omega) | (intro hh; refine ⟨hh, ?_⟩; omega) | (simp +contextual; done))); (try simp (etaStruct := .none) only [push_cast, Int.cast_ofNat_Int, Nat.reduceAdd, Nat.reduceSub, Nat.reduceMul, reduceCtorEq, reduceIte, Nat.reduceEqDiff, Nat.reduceLT, Nat.reduceLeDiff, Nat.reduceBEq, Int.reduceToNat, Int.reduceLE, Int.reduceLT, getD_in _ _ _ hlt, trpP]); (try simp (disch := omega) only [wrap_in, wk_self, Int.tdiv_eq_ediv_of_nonneg, Int.tmod_eq_emod_of_nonneg]); (repeat (with_reducible refine And.intro ?_ ?_; · first | omega | decide | (simp; done) | (simp; omega) | (intro hh; refine ⟨hh, ?_⟩; omega) | (simp +contextual; done)))
        refine callB (rleaf_s (trpI w k) ok.1 ok.2) (WkL.refl _) rfl ?_
        (try simp (etaStruct := .none) only [push_cast, Int.cast_ofNat_Int, Nat.reduceAdd, Nat.reduceSub, Nat.reduceMul, reduceCtorEq, reduceIte, Nat.reduceEqDiff, Nat.reduceLT, Nat.reduceLeDiff, Nat.reduceBEq, Int.reduceToNat, Int.reduceLE, Int.reduceLT, getD_in _ _ _ hlt, trpP]); (try simp (disch := omega) only [wrap_in, wk_self, Int.tdiv_eq_ediv_of_nonneg, Int.tmod_eq_emod_of_nonneg]); (repeat (with_reducible refine And.intro ?_ ?_; · first | omega | decide | (simp; done) | (simp; omega) | (intro hh; refine ⟨hh, ?_⟩; omega) | (simp +contextual; done))); (try simp (etaStruct := .none) only [push_cast, Int.cast_ofNat_Int, Nat.reduceAdd, Nat.reduceSub, Nat.reduceMul, reduceCtorEq, reduceIte, Nat.reduceEqDiff, Nat.reduceLT, Nat.reduceLeDiff, Nat.reduceBEq, Int.reduceToNat, Int.reduceLE, Int.reduceLT, getD_in _ _ _ hlt, trpP]); (try simp (disch := omega) only [wrap_in, wk_self, Int.tdiv_eq_ediv_of_nonneg, Int.tmod_eq_emod_of_nonneg]); (repeat (with_reducible refine And.intro ?_ ?_; · first | omega | decide | (simp; done) | (simp; omega) | (intro hh; refine ⟨hh, ?_⟩; omega) | (simp +contextual; done)))
        refine ⟨k + 1, by omega, by omega, To.mk [4] rfl rfl (by decide) ?_ ?_⟩
        · (try simp (etaStruct := .none) only [push_cast, Int.cast_ofNat_Int, Nat.reduceAdd, Nat.reduceSub, Nat.reduceMul, reduceCtorEq, reduceIte, Nat.reduceEqDiff, Nat.reduceLT, Nat.reduceLeDiff, Nat.reduceBEq, Int.reduceToNat, Int.reduceLE, Int.reduceLT, wl3_s, List.map_append, u64P]); (try simp (disch := omega) only [wrap_in, wk_self, Int.tdiv_eq_ediv_of_nonneg, Int.tmod_eq_emod_of_nonneg]); (repeat (with_reducible refine And.intro ?_ ?_; · first | omega | decide | (simp; done) | (simp; omega) | (intro hh; refine ⟨hh, ?_⟩; omega) | (simp +contextual; done))); (try simp (etaStruct := .none) only [push_cast, Int.cast_ofNat_Int, Nat.reduceAdd, Nat.reduceSub, Nat.reduceMul, reduceCtorEq, reduceIte, Nat.reduceEqDiff, Nat.reduceLT, Nat.reduceLeDiff, Nat.reduceBEq, Int.reduceToNat, Int.reduceLE, Int.reduceLT, wl3_s, List.map_append, u64P]); (try simp (disch := omega) only [wrap_in, wk_self, Int.tdiv_eq_ediv_of_nonneg, Int.tmod_eq_emod_of_nonneg]); (repeat (with_reducible refine And.intro ?_ ?_; · first | omega | decide | (simp; done) | (simp; omega) | (intro hh; refine ⟨hh, ?_⟩; omega) | (simp +contextual; done)))
        · (try simp (etaStruct := .none) only [push_cast, Int.cast_ofNat_Int, Nat.reduceAdd, Nat.reduceSub, Nat.reduceMul, reduceCtorEq, reduceIte, Nat.reduceEqDiff, Nat.reduceLT, Nat.reduceLeDiff, Nat.reduceBEq, Int.reduceToNat, Int.reduceLE, Int.reduceLT, getD_in _ _ _ hlt, trpP]); (try simp (disch := omega) only [wrap_in, wk_self, Int.tdiv_eq_ediv_of_nonneg, Int.tmod_eq_emod_of_nonneg]); (repeat (with_reducible refine And.intro ?_ ?_; · first | omega | decide | (simp; done) | (simp; omega) | (intro hh; refine ⟨hh, ?_⟩; omega) | (simp +contextual; done))); (try simp (etaStruct := .none) only [push_cast, Int.cast_ofNat_Int, Nat.reduceAdd, Nat.reduceSub, Nat.reduceMul, reduceCtorEq, reduceIte, Nat.reduceEqDiff, Nat.reduceLT, Nat.reduceLeDiff, Nat.reduceBEq, Int.reduceToNat, Int.reduceLE, Int.reduceLT, getD_in _ _ _ hlt, trpP]); (try simp (disch := omega) only [wrap_in, wk_self, Int.tdiv_eq_ediv_of_nonneg, Int.tmod_eq_emod_of_nonneg]); (repeat (with_reducible refine And.intro ?_ ?_; · first | omega | decide | (simp; done) | (simp; omega) | (intro hh; refine ⟨hh, ?_⟩; omega) | (simp +contextual; done)))
      · (try simp only [decide_eq_true_eq, decide_eq_false_iff_not, Bool.not_eq_true', Bool.not_eq_false', Bool.or_eq_true, Bool.and_eq_true, Bool.or_eq_false_iff, Bool.and_eq_false_iff, Int.not_lt, Int.not_le, Bool.not_true, Bool.not_false, not_and, not_or] at h4)
        obtain rfl : k = w.troops.length := by omega
        have ln := wl3_len w w.troops.length
        (try simp (etaStruct := .none) only [push_cast, Int.cast_ofNat_Int, Nat.reduceAdd, Nat.reduceSub, Nat.reduceMul, reduceCtorEq, reduceIte, Nat.reduceEqDiff, Nat.reduceLT, Nat.reduceLeDiff, Nat.reduceBEq, Int.reduceToNat, Int.reduceLE, Int.reduceLT]); (try simp (disch := omega) only [wrap_in, wk_self, Int.tdiv_eq_ediv_of_nonneg, Int.tmod_eq_emod_of_nonneg]); (repeat (with_reducible refine And.intro ?_ ?_; · first | omega | decide | (simp; done) | (simp; omega) | (intro hh; refine ⟨hh, ?_⟩; omega) | (simp +contextual; done)))
        refine callB (markOf_s (wl3 w w.troops.length) (by omega)) (WkL.refl _) rfl ?_
        (try simp (etaStruct := .none) only [push_cast, Int.cast_ofNat_Int, Nat.reduceAdd, Nat.reduceSub, Nat.reduceMul, reduceCtorEq, reduceIte, Nat.reduceEqDiff, Nat.reduceLT, Nat.reduceLeDiff, Nat.reduceBEq, Int.reduceToNat, Int.reduceLE, Int.reduceLT]); (try simp (disch := omega) only [wrap_in, wk_self, Int.tdiv_eq_ediv_of_nonneg, Int.tmod_eq_emod_of_nonneg]); (repeat (with_reducible refine And.intro ?_ ?_; · first | omega | decide | (simp; done) | (simp; omega) | (intro hh; refine ⟨hh, ?_⟩; omega) | (simp +contextual; done)))
        (first | (refine ret0 rfl (by repeat' (first | exact trivial | exact rfl | refine ⟨?_, ?_⟩)) (Wk.of ?_); (try simp (etaStruct := .none) only [push_cast, Int.cast_ofNat_Int, Nat.reduceAdd, Nat.reduceSub, Nat.reduceMul, reduceCtorEq, reduceIte, Nat.reduceEqDiff, Nat.reduceLT, Nat.reduceLeDiff, Nat.reduceBEq, Int.reduceToNat, Int.reduceLE, Int.reduceLT]); first | done | (simp [wmarkV, *]; done) | (simp_all [wmarkV]; done)) | (refine ret0 rfl (by repeat' (first | exact trivial | exact rfl | refine ⟨?_, ?_⟩)) ?_; (try simp (etaStruct := .none) only [push_cast, Int.cast_ofNat_Int, Nat.reduceAdd, Nat.reduceSub, Nat.reduceMul, reduceCtorEq, reduceIte, Nat.reduceEqDiff, Nat.reduceLT, Nat.reduceLeDiff, Nat.reduceBEq, Int.reduceToNat, Int.reduceLE, Int.reduceLT]); (try simp [wmarkV, *]); (try (first | exact Wk.refl _ | exact Wk.nil _ | (refine Wk.tup ?_; repeat' (first | exact trivial | exact Wk.refl _ | exact Wk.nil _ | refine ⟨?_, ?_⟩ | (refine Wk.agg ?_)))))))
theorem tmark_s (w : Wld) (hl : wldL w) (hw : worldE w = 0) : Spec Try.prog 70 [wldA w] [] (.tup [.c (.v (.int .u64 (wmarkV w : Nat))), I .i64 0]) [] := by
  obtain ⟨b1, b2, b3, b4, b5, b6, b7, b8, b9, b10, b11⟩ := world_b hw
  have h0 := hdI_ok hw
  refine spec_am Try.func70 rfl rfl mix 107 rfl [.tmp 2, .tmp 3] Try.results70 (Nat.le_of_ble_eq_true rfl) ?_
  (try simp (etaStruct := .none) only [push_cast, Int.cast_ofNat_Int, Nat.reduceAdd, Nat.reduceSub, Nat.reduceMul, reduceCtorEq, reduceIte, Nat.reduceEqDiff, Nat.reduceLT, Nat.reduceLeDiff, Nat.reduceBEq, Int.reduceToNat, Int.reduceLE, Int.reduceLT]); (try simp (disch := omega) only [wrap_in, wk_self, Int.tdiv_eq_ediv_of_nonneg, Int.tmod_eq_emod_of_nonneg]); (repeat (with_reducible refine And.intro ?_ ?_; · first | omega | decide | (simp; done) | (simp; omega) | (intro hh; refine ⟨hh, ?_⟩; omega) | (simp +contextual; done)))
  refine callP (tcheck_s w hl) (WkL.refl _) ?_
  (try simp (etaStruct := .none) only [push_cast, Int.cast_ofNat_Int, Nat.reduceAdd, Nat.reduceSub, Nat.reduceMul, reduceCtorEq, reduceIte, Nat.reduceEqDiff, Nat.reduceLT, Nat.reduceLeDiff, Nat.reduceBEq, Int.reduceToNat, Int.reduceLE, Int.reduceLT]); (try simp (disch := omega) only [wrap_in, wk_self, Int.tdiv_eq_ediv_of_nonneg, Int.tmod_eq_emod_of_nonneg]); (repeat (with_reducible refine And.intro ?_ ?_; · first | omega | decide | (simp; done) | (simp; omega) | (intro hh; refine ⟨hh, ?_⟩; omega) | (simp +contextual; done)))
  refine cond_i (fun h1 => ?_) (fun h1 => ?_)
  · (try simp only [decide_eq_true_eq, decide_eq_false_iff_not, Bool.not_eq_true', Bool.not_eq_false', Bool.or_eq_true, Bool.and_eq_true, Bool.or_eq_false_iff, Bool.and_eq_false_iff, Int.not_lt, Int.not_le, Bool.not_true, Bool.not_false, not_and, not_or] at h1)
    exact absurd hw h1
  · (try simp only [decide_eq_true_eq, decide_eq_false_iff_not, Bool.not_eq_true', Bool.not_eq_false', Bool.or_eq_true, Bool.and_eq_true, Bool.or_eq_false_iff, Bool.and_eq_false_iff, Int.not_lt, Int.not_le, Bool.not_true, Bool.not_false, not_and, not_or] at h1)
    (try simp (etaStruct := .none) only [push_cast, Int.cast_ofNat_Int, Nat.reduceAdd, Nat.reduceSub, Nat.reduceMul, reduceCtorEq, reduceIte, Nat.reduceEqDiff, Nat.reduceLT, Nat.reduceLeDiff, Nat.reduceBEq, Int.reduceToNat, Int.reduceLE, Int.reduceLT]); (try simp (disch := omega) only [wrap_in, wk_self, Int.tdiv_eq_ediv_of_nonneg, Int.tmod_eq_emod_of_nonneg]); (repeat (with_reducible refine And.intro ?_ ?_; · first | omega | decide | (simp; done) | (simp; omega) | (intro hh; refine ⟨hh, ?_⟩; omega) | (simp +contextual; done)))
    refine callB (tleaf_s (hdI w) h0.1 h0.2) (WkL.refl _) rfl ?_
    (try simp (etaStruct := .none) only [push_cast, Int.cast_ofNat_Int, Nat.reduceAdd, Nat.reduceSub, Nat.reduceMul, reduceCtorEq, reduceIte, Nat.reduceEqDiff, Nat.reduceLT, Nat.reduceLeDiff, Nat.reduceBEq, Int.reduceToNat, Int.reduceLE, Int.reduceLT]); (try simp (disch := omega) only [wrap_in, wk_self, Int.tdiv_eq_ediv_of_nonneg, Int.tmod_eq_emod_of_nonneg]); (repeat (with_reducible refine And.intro ?_ ?_; · first | omega | decide | (simp; done) | (simp; omega) | (intro hh; refine ⟨hh, ?_⟩; omega) | (simp +contextual; done)))
    refine loopI (fun k : Nat => ⟨[(37, I .i64 k), (36, I .i64 w.bases.length), (35, .c (.sl 2 (w.bases.map celP))), (5, .own 1), (1, .ptr 0 0 0)], [(0, .blk 86 (wldC w)), (1, .row 67 1 ((wl1 w k).map u64P))], 2⟩) (fun k : Nat => k ≤ w.bases.length) (fun k : Nat => w.bases.length - k) (0) (Nat.zero_le _) (To.mk [0, 3] rfl rfl (by decide) ?_ ?_) ?_
    · simp (etaStruct := .none) only [push_cast, Int.cast_ofNat_Int, Nat.reduceAdd, Nat.reduceSub, Nat.reduceMul, reduceCtorEq, reduceIte, Nat.reduceEqDiff, Nat.reduceLT, Nat.reduceLeDiff, Nat.reduceBEq, Int.reduceToNat, Int.reduceLE, Int.reduceLT, wl1_0, u64P]
    · simp (etaStruct := .none) only [push_cast, Int.cast_ofNat_Int, Nat.reduceAdd, Nat.reduceSub, Nat.reduceMul, reduceCtorEq, reduceIte, Nat.reduceEqDiff, Nat.reduceLT, Nat.reduceLeDiff, Nat.reduceBEq, Int.reduceToNat, Int.reduceLE, Int.reduceLT]
    rintro k hk
    (try simp (etaStruct := .none) only [push_cast, Int.cast_ofNat_Int, Nat.reduceAdd, Nat.reduceSub, Nat.reduceMul, reduceCtorEq, reduceIte, Nat.reduceEqDiff, Nat.reduceLT, Nat.reduceLeDiff, Nat.reduceBEq, Int.reduceToNat, Int.reduceLE, Int.reduceLT]); (try simp (disch := omega) only [wrap_in, wk_self, Int.tdiv_eq_ediv_of_nonneg, Int.tmod_eq_emod_of_nonneg]); (repeat (with_reducible refine And.intro ?_ ?_; · first | omega | decide | (simp; done) | (simp; omega) | (intro hh; refine ⟨hh, ?_⟩; omega) | (simp +contextual; done)))
    refine cond_i (fun h2 => ?_) (fun h2 => ?_)
    · (try simp only [decide_eq_true_eq, decide_eq_false_iff_not, Bool.not_eq_true', Bool.not_eq_false', Bool.or_eq_true, Bool.and_eq_true, Bool.or_eq_false_iff, Bool.and_eq_false_iff, Int.not_lt, Int.not_le, Bool.not_true, Bool.not_false, not_and, not_or] at h2)
      have hlt : k < w.bases.length := by omega
      have hlt2 : k < w.stocks.length := by omega
      have ok := basI_ok hw hlt
      have ln := wl1_len w k
      (try simp (etaStruct := .none) only [push_cast, Int.cast_ofNat_Int, Nat.reduceAdd, Nat.reduceSub, Nat.reduceMul, reduceCtorEq, reduceIte, Nat.reduceEqDiff, Nat.reduceLT, Nat.reduceLeDiff, Nat.reduceBEq, Int.reduceToNat, Int.reduceLE, Int.reduceLT, getD_in _ _ _ hlt, getD_in _ _ _ hlt2, celP, i64P]); (try simp (disch := omega) only [wrap_in, wk_self, Int.tdiv_eq_ediv_of_nonneg, Int.tmod_eq_emod_of_nonneg]); (repeat (with_reducible refine And.intro ?_ ?_; · first | omega | decide | (simp; done) | (simp; omega) | (intro hh; refine ⟨hh, ?_⟩; omega) | (simp +contextual; done))); (try simp (etaStruct := .none) only [push_cast, Int.cast_ofNat_Int, Nat.reduceAdd, Nat.reduceSub, Nat.reduceMul, reduceCtorEq, reduceIte, Nat.reduceEqDiff, Nat.reduceLT, Nat.reduceLeDiff, Nat.reduceBEq, Int.reduceToNat, Int.reduceLE, Int.reduceLT, getD_in _ _ _ hlt, getD_in _ _ _ hlt2, celP, i64P]); (try simp (disch := omega) only [wrap_in, wk_self, Int.tdiv_eq_ediv_of_nonneg, Int.tmod_eq_emod_of_nonneg]); (repeat (with_reducible refine And.intro ?_ ?_; · first | omega | decide | (simp; done) | (simp; omega) | (intro hh; refine ⟨hh, ?_⟩; omega) | (simp +contextual; done)))
      refine callB (tleaf_s (basI w k) ok.1 ok.2) (WkL.refl _) rfl ?_
      (try simp (etaStruct := .none) only [push_cast, Int.cast_ofNat_Int, Nat.reduceAdd, Nat.reduceSub, Nat.reduceMul, reduceCtorEq, reduceIte, Nat.reduceEqDiff, Nat.reduceLT, Nat.reduceLeDiff, Nat.reduceBEq, Int.reduceToNat, Int.reduceLE, Int.reduceLT, getD_in _ _ _ hlt, getD_in _ _ _ hlt2, celP, i64P]); (try simp (disch := omega) only [wrap_in, wk_self, Int.tdiv_eq_ediv_of_nonneg, Int.tmod_eq_emod_of_nonneg]); (repeat (with_reducible refine And.intro ?_ ?_; · first | omega | decide | (simp; done) | (simp; omega) | (intro hh; refine ⟨hh, ?_⟩; omega) | (simp +contextual; done))); (try simp (etaStruct := .none) only [push_cast, Int.cast_ofNat_Int, Nat.reduceAdd, Nat.reduceSub, Nat.reduceMul, reduceCtorEq, reduceIte, Nat.reduceEqDiff, Nat.reduceLT, Nat.reduceLeDiff, Nat.reduceBEq, Int.reduceToNat, Int.reduceLE, Int.reduceLT, getD_in _ _ _ hlt, getD_in _ _ _ hlt2, celP, i64P]); (try simp (disch := omega) only [wrap_in, wk_self, Int.tdiv_eq_ediv_of_nonneg, Int.tmod_eq_emod_of_nonneg]); (repeat (with_reducible refine And.intro ?_ ?_; · first | omega | decide | (simp; done) | (simp; omega) | (intro hh; refine ⟨hh, ?_⟩; omega) | (simp +contextual; done)))
      (try (refine ⟨by kernel_rfl, ?_⟩))
      (try simp (etaStruct := .none) only [push_cast, Int.cast_ofNat_Int, Nat.reduceAdd, Nat.reduceSub, Nat.reduceMul, reduceCtorEq, reduceIte, Nat.reduceEqDiff, Nat.reduceLT, Nat.reduceLeDiff, Nat.reduceBEq, Int.reduceToNat, Int.reduceLE, Int.reduceLT, getD_in _ _ _ hlt, getD_in _ _ _ hlt2, celP, i64P]); (try simp (disch := omega) only [wrap_in, wk_self, Int.tdiv_eq_ediv_of_nonneg, Int.tmod_eq_emod_of_nonneg]); (repeat (with_reducible refine And.intro ?_ ?_; · first | omega | decide | (simp; done) | (simp; omega) | (intro hh; refine ⟨hh, ?_⟩; omega) | (simp +contextual; done))); (try simp (etaStruct := .none) only [push_cast, Int.cast_ofNat_Int, Nat.reduceAdd, Nat.reduceSub, Nat.reduceMul, reduceCtorEq, reduceIte, Nat.reduceEqDiff, Nat.reduceLT, Nat.reduceLeDiff, Nat.reduceBEq, Int.reduceToNat, Int.reduceLE, Int.reduceLT, getD_in _ _ _ hlt, getD_in _ _ _ hlt2, celP, i64P]); (try simp (disch := omega) only [wrap_in, wk_self, Int.tdiv_eq_ediv_of_nonneg, Int.tmod_eq_emod_of_nonneg]); (repeat (with_reducible refine And.intro ?_ ?_; · first | omega | decide | (simp; done) | (simp; omega) | (intro hh; refine ⟨hh, ?_⟩; omega) | (simp +contextual; done)))
      refine ⟨k + 1, by omega, by omega, To.mk [0, 59] rfl rfl (by decide) ?_ ?_⟩
      · (try simp (etaStruct := .none) only [push_cast, Int.cast_ofNat_Int, Nat.reduceAdd, Nat.reduceSub, Nat.reduceMul, reduceCtorEq, reduceIte, Nat.reduceEqDiff, Nat.reduceLT, Nat.reduceLeDiff, Nat.reduceBEq, Int.reduceToNat, Int.reduceLE, Int.reduceLT, wl1_s, List.map_append, u64P]); (try simp (disch := omega) only [wrap_in, wk_self, Int.tdiv_eq_ediv_of_nonneg, Int.tmod_eq_emod_of_nonneg]); (repeat (with_reducible refine And.intro ?_ ?_; · first | omega | decide | (simp; done) | (simp; omega) | (intro hh; refine ⟨hh, ?_⟩; omega) | (simp +contextual; done))); (try simp (etaStruct := .none) only [push_cast, Int.cast_ofNat_Int, Nat.reduceAdd, Nat.reduceSub, Nat.reduceMul, reduceCtorEq, reduceIte, Nat.reduceEqDiff, Nat.reduceLT, Nat.reduceLeDiff, Nat.reduceBEq, Int.reduceToNat, Int.reduceLE, Int.reduceLT, wl1_s, List.map_append, u64P]); (try simp (disch := omega) only [wrap_in, wk_self, Int.tdiv_eq_ediv_of_nonneg, Int.tmod_eq_emod_of_nonneg]); (repeat (with_reducible refine And.intro ?_ ?_; · first | omega | decide | (simp; done) | (simp; omega) | (intro hh; refine ⟨hh, ?_⟩; omega) | (simp +contextual; done)))
      · (try simp (etaStruct := .none) only [push_cast, Int.cast_ofNat_Int, Nat.reduceAdd, Nat.reduceSub, Nat.reduceMul, reduceCtorEq, reduceIte, Nat.reduceEqDiff, Nat.reduceLT, Nat.reduceLeDiff, Nat.reduceBEq, Int.reduceToNat, Int.reduceLE, Int.reduceLT, getD_in _ _ _ hlt, getD_in _ _ _ hlt2, celP, i64P]); (try simp (disch := omega) only [wrap_in, wk_self, Int.tdiv_eq_ediv_of_nonneg, Int.tmod_eq_emod_of_nonneg]); (repeat (with_reducible refine And.intro ?_ ?_; · first | omega | decide | (simp; done) | (simp; omega) | (intro hh; refine ⟨hh, ?_⟩; omega) | (simp +contextual; done))); (try simp (etaStruct := .none) only [push_cast, Int.cast_ofNat_Int, Nat.reduceAdd, Nat.reduceSub, Nat.reduceMul, reduceCtorEq, reduceIte, Nat.reduceEqDiff, Nat.reduceLT, Nat.reduceLeDiff, Nat.reduceBEq, Int.reduceToNat, Int.reduceLE, Int.reduceLT, getD_in _ _ _ hlt, getD_in _ _ _ hlt2, celP, i64P]); (try simp (disch := omega) only [wrap_in, wk_self, Int.tdiv_eq_ediv_of_nonneg, Int.tmod_eq_emod_of_nonneg]); (repeat (with_reducible refine And.intro ?_ ?_; · first | omega | decide | (simp; done) | (simp; omega) | (intro hh; refine ⟨hh, ?_⟩; omega) | (simp +contextual; done)))
    · (try simp only [decide_eq_true_eq, decide_eq_false_iff_not, Bool.not_eq_true', Bool.not_eq_false', Bool.or_eq_true, Bool.and_eq_true, Bool.or_eq_false_iff, Bool.and_eq_false_iff, Int.not_lt, Int.not_le, Bool.not_true, Bool.not_false, not_and, not_or] at h2)
      obtain rfl : k = w.bases.length := by omega
      (try simp (etaStruct := .none) only [push_cast, Int.cast_ofNat_Int, Nat.reduceAdd, Nat.reduceSub, Nat.reduceMul, reduceCtorEq, reduceIte, Nat.reduceEqDiff, Nat.reduceLT, Nat.reduceLeDiff, Nat.reduceBEq, Int.reduceToNat, Int.reduceLE, Int.reduceLT]); (try simp (disch := omega) only [wrap_in, wk_self, Int.tdiv_eq_ediv_of_nonneg, Int.tmod_eq_emod_of_nonneg]); (repeat (with_reducible refine And.intro ?_ ?_; · first | omega | decide | (simp; done) | (simp; omega) | (intro hh; refine ⟨hh, ?_⟩; omega) | (simp +contextual; done)))
      refine loopI (fun k : Nat => ⟨[(61, I .i64 k), (60, I .i64 w.mines.length), (59, .c (.sl 1 (w.mines.map i64P))), (5, .own 1), (1, .ptr 0 0 0)], [(0, .blk 86 (wldC w)), (1, .row 67 1 ((wl2 w k).map u64P))], 2⟩) (fun k : Nat => k ≤ w.mines.length) (fun k : Nat => w.mines.length - k) (0) (Nat.zero_le _) (To.mk [0, 1] rfl rfl (by decide) ?_ ?_) ?_
      · simp (etaStruct := .none) only [push_cast, Int.cast_ofNat_Int, Nat.reduceAdd, Nat.reduceSub, Nat.reduceMul, reduceCtorEq, reduceIte, Nat.reduceEqDiff, Nat.reduceLT, Nat.reduceLeDiff, Nat.reduceBEq, Int.reduceToNat, Int.reduceLE, Int.reduceLT, wl2_0]
      · simp (etaStruct := .none) only [push_cast, Int.cast_ofNat_Int, Nat.reduceAdd, Nat.reduceSub, Nat.reduceMul, reduceCtorEq, reduceIte, Nat.reduceEqDiff, Nat.reduceLT, Nat.reduceLeDiff, Nat.reduceBEq, Int.reduceToNat, Int.reduceLE, Int.reduceLT]
      rintro k hk
      (try simp (etaStruct := .none) only [push_cast, Int.cast_ofNat_Int, Nat.reduceAdd, Nat.reduceSub, Nat.reduceMul, reduceCtorEq, reduceIte, Nat.reduceEqDiff, Nat.reduceLT, Nat.reduceLeDiff, Nat.reduceBEq, Int.reduceToNat, Int.reduceLE, Int.reduceLT]); (try simp (disch := omega) only [wrap_in, wk_self, Int.tdiv_eq_ediv_of_nonneg, Int.tmod_eq_emod_of_nonneg]); (repeat (with_reducible refine And.intro ?_ ?_; · first | omega | decide | (simp; done) | (simp; omega) | (intro hh; refine ⟨hh, ?_⟩; omega) | (simp +contextual; done)))
      refine cond_i (fun h3 => ?_) (fun h3 => ?_)
      · (try simp only [decide_eq_true_eq, decide_eq_false_iff_not, Bool.not_eq_true', Bool.not_eq_false', Bool.or_eq_true, Bool.and_eq_true, Bool.or_eq_false_iff, Bool.and_eq_false_iff, Int.not_lt, Int.not_le, Bool.not_true, Bool.not_false, not_and, not_or] at h3)
        have hlt : k < w.mines.length := by omega
        have ok := minI_ok hw hlt
        have ln := wl2_len w k
        have bm := b11 k hlt
        have st := wl2_s w k
        (try simp (etaStruct := .none) only [push_cast, Int.cast_ofNat_Int, Nat.reduceAdd, Nat.reduceSub, Nat.reduceMul, reduceCtorEq, reduceIte, Nat.reduceEqDiff, Nat.reduceLT, Nat.reduceLeDiff, Nat.reduceBEq, Int.reduceToNat, Int.reduceLE, Int.reduceLT, getD_in _ _ _ hlt, i64P]); (try simp (disch := omega) only [wrap_in, wk_self, Int.tdiv_eq_ediv_of_nonneg, Int.tmod_eq_emod_of_nonneg]); (repeat (with_reducible refine And.intro ?_ ?_; · first | omega | decide | (simp; done) | (simp; omega) | (intro hh; refine ⟨hh, ?_⟩; omega) | (simp +contextual; done))); (try simp (etaStruct := .none) only [push_cast, Int.cast_ofNat_Int, Nat.reduceAdd, Nat.reduceSub, Nat.reduceMul, reduceCtorEq, reduceIte, Nat.reduceEqDiff, Nat.reduceLT, Nat.reduceLeDiff, Nat.reduceBEq, Int.reduceToNat, Int.reduceLE, Int.reduceLT, getD_in _ _ _ hlt, i64P]); (try simp (disch := omega) only [wrap_in, wk_self, Int.tdiv_eq_ediv_of_nonneg, Int.tmod_eq_emod_of_nonneg]); (repeat (with_reducible refine And.intro ?_ ?_; · first | omega | decide | (simp; done) | (simp; omega) | (intro hh; refine ⟨hh, ?_⟩; omega) | (simp +contextual; done)))
        refine cond_i (fun h4 => ?_) (fun h4 => ?_)
        · (try simp only [decide_eq_true_eq, decide_eq_false_iff_not, Bool.not_eq_true', Bool.not_eq_false', Bool.or_eq_true, Bool.and_eq_true, Bool.or_eq_false_iff, Bool.and_eq_false_iff, Int.not_lt, Int.not_le, Bool.not_true, Bool.not_false, not_and, not_or] at h4)
          rw [if_neg (by omega)] at st
          (try simp (etaStruct := .none) only [push_cast, Int.cast_ofNat_Int, Nat.reduceAdd, Nat.reduceSub, Nat.reduceMul, reduceCtorEq, reduceIte, Nat.reduceEqDiff, Nat.reduceLT, Nat.reduceLeDiff, Nat.reduceBEq, Int.reduceToNat, Int.reduceLE, Int.reduceLT, getD_in _ _ _ hlt, i64P]); (try simp (disch := omega) only [wrap_in, wk_self, Int.tdiv_eq_ediv_of_nonneg, Int.tmod_eq_emod_of_nonneg]); (repeat (with_reducible refine And.intro ?_ ?_; · first | omega | decide | (simp; done) | (simp; omega) | (intro hh; refine ⟨hh, ?_⟩; omega) | (simp +contextual; done))); (try simp (etaStruct := .none) only [push_cast, Int.cast_ofNat_Int, Nat.reduceAdd, Nat.reduceSub, Nat.reduceMul, reduceCtorEq, reduceIte, Nat.reduceEqDiff, Nat.reduceLT, Nat.reduceLeDiff, Nat.reduceBEq, Int.reduceToNat, Int.reduceLE, Int.reduceLT, getD_in _ _ _ hlt, i64P]); (try simp (disch := omega) only [wrap_in, wk_self, Int.tdiv_eq_ediv_of_nonneg, Int.tmod_eq_emod_of_nonneg]); (repeat (with_reducible refine And.intro ?_ ?_; · first | omega | decide | (simp; done) | (simp; omega) | (intro hh; refine ⟨hh, ?_⟩; omega) | (simp +contextual; done)))
          refine callB (tleaf_s (minI w k) ok.1 ok.2) (WkL.refl _) rfl ?_
          (try simp (etaStruct := .none) only [push_cast, Int.cast_ofNat_Int, Nat.reduceAdd, Nat.reduceSub, Nat.reduceMul, reduceCtorEq, reduceIte, Nat.reduceEqDiff, Nat.reduceLT, Nat.reduceLeDiff, Nat.reduceBEq, Int.reduceToNat, Int.reduceLE, Int.reduceLT, getD_in _ _ _ hlt, i64P]); (try simp (disch := omega) only [wrap_in, wk_self, Int.tdiv_eq_ediv_of_nonneg, Int.tmod_eq_emod_of_nonneg]); (repeat (with_reducible refine And.intro ?_ ?_; · first | omega | decide | (simp; done) | (simp; omega) | (intro hh; refine ⟨hh, ?_⟩; omega) | (simp +contextual; done))); (try simp (etaStruct := .none) only [push_cast, Int.cast_ofNat_Int, Nat.reduceAdd, Nat.reduceSub, Nat.reduceMul, reduceCtorEq, reduceIte, Nat.reduceEqDiff, Nat.reduceLT, Nat.reduceLeDiff, Nat.reduceBEq, Int.reduceToNat, Int.reduceLE, Int.reduceLT, getD_in _ _ _ hlt, i64P]); (try simp (disch := omega) only [wrap_in, wk_self, Int.tdiv_eq_ediv_of_nonneg, Int.tmod_eq_emod_of_nonneg]); (repeat (with_reducible refine And.intro ?_ ?_; · first | omega | decide | (simp; done) | (simp; omega) | (intro hh; refine ⟨hh, ?_⟩; omega) | (simp +contextual; done)))
          refine ⟨k + 1, by omega, by omega, To.mk [0, 4] rfl rfl (by decide) ?_ ?_⟩
          · (try simp (etaStruct := .none) only [push_cast, Int.cast_ofNat_Int, Nat.reduceAdd, Nat.reduceSub, Nat.reduceMul, reduceCtorEq, reduceIte, Nat.reduceEqDiff, Nat.reduceLT, Nat.reduceLeDiff, Nat.reduceBEq, Int.reduceToNat, Int.reduceLE, Int.reduceLT, st, List.map_append, u64P]); (try simp (disch := omega) only [wrap_in, wk_self, Int.tdiv_eq_ediv_of_nonneg, Int.tmod_eq_emod_of_nonneg]); (repeat (with_reducible refine And.intro ?_ ?_; · first | omega | decide | (simp; done) | (simp; omega) | (intro hh; refine ⟨hh, ?_⟩; omega) | (simp +contextual; done))); (try simp (etaStruct := .none) only [push_cast, Int.cast_ofNat_Int, Nat.reduceAdd, Nat.reduceSub, Nat.reduceMul, reduceCtorEq, reduceIte, Nat.reduceEqDiff, Nat.reduceLT, Nat.reduceLeDiff, Nat.reduceBEq, Int.reduceToNat, Int.reduceLE, Int.reduceLT, st, List.map_append, u64P]); (try simp (disch := omega) only [wrap_in, wk_self, Int.tdiv_eq_ediv_of_nonneg, Int.tmod_eq_emod_of_nonneg]); (repeat (with_reducible refine And.intro ?_ ?_; · first | omega | decide | (simp; done) | (simp; omega) | (intro hh; refine ⟨hh, ?_⟩; omega) | (simp +contextual; done)))
          · (try simp (etaStruct := .none) only [push_cast, Int.cast_ofNat_Int, Nat.reduceAdd, Nat.reduceSub, Nat.reduceMul, reduceCtorEq, reduceIte, Nat.reduceEqDiff, Nat.reduceLT, Nat.reduceLeDiff, Nat.reduceBEq, Int.reduceToNat, Int.reduceLE, Int.reduceLT, getD_in _ _ _ hlt, i64P]); (try simp (disch := omega) only [wrap_in, wk_self, Int.tdiv_eq_ediv_of_nonneg, Int.tmod_eq_emod_of_nonneg]); (repeat (with_reducible refine And.intro ?_ ?_; · first | omega | decide | (simp; done) | (simp; omega) | (intro hh; refine ⟨hh, ?_⟩; omega) | (simp +contextual; done))); (try simp (etaStruct := .none) only [push_cast, Int.cast_ofNat_Int, Nat.reduceAdd, Nat.reduceSub, Nat.reduceMul, reduceCtorEq, reduceIte, Nat.reduceEqDiff, Nat.reduceLT, Nat.reduceLeDiff, Nat.reduceBEq, Int.reduceToNat, Int.reduceLE, Int.reduceLT, getD_in _ _ _ hlt, i64P]); (try simp (disch := omega) only [wrap_in, wk_self, Int.tdiv_eq_ediv_of_nonneg, Int.tmod_eq_emod_of_nonneg]); (repeat (with_reducible refine And.intro ?_ ?_; · first | omega | decide | (simp; done) | (simp; omega) | (intro hh; refine ⟨hh, ?_⟩; omega) | (simp +contextual; done)))
        · (try simp only [decide_eq_true_eq, decide_eq_false_iff_not, Bool.not_eq_true', Bool.not_eq_false', Bool.or_eq_true, Bool.and_eq_true, Bool.or_eq_false_iff, Bool.and_eq_false_iff, Int.not_lt, Int.not_le, Bool.not_true, Bool.not_false, not_and, not_or] at h4)
          rw [if_pos (by omega), List.append_nil] at st
          (try simp (etaStruct := .none) only [push_cast, Int.cast_ofNat_Int, Nat.reduceAdd, Nat.reduceSub, Nat.reduceMul, reduceCtorEq, reduceIte, Nat.reduceEqDiff, Nat.reduceLT, Nat.reduceLeDiff, Nat.reduceBEq, Int.reduceToNat, Int.reduceLE, Int.reduceLT, getD_in _ _ _ hlt, i64P]); (try simp (disch := omega) only [wrap_in, wk_self, Int.tdiv_eq_ediv_of_nonneg, Int.tmod_eq_emod_of_nonneg]); (repeat (with_reducible refine And.intro ?_ ?_; · first | omega | decide | (simp; done) | (simp; omega) | (intro hh; refine ⟨hh, ?_⟩; omega) | (simp +contextual; done))); (try simp (etaStruct := .none) only [push_cast, Int.cast_ofNat_Int, Nat.reduceAdd, Nat.reduceSub, Nat.reduceMul, reduceCtorEq, reduceIte, Nat.reduceEqDiff, Nat.reduceLT, Nat.reduceLeDiff, Nat.reduceBEq, Int.reduceToNat, Int.reduceLE, Int.reduceLT, getD_in _ _ _ hlt, i64P]); (try simp (disch := omega) only [wrap_in, wk_self, Int.tdiv_eq_ediv_of_nonneg, Int.tmod_eq_emod_of_nonneg]); (repeat (with_reducible refine And.intro ?_ ?_; · first | omega | decide | (simp; done) | (simp; omega) | (intro hh; refine ⟨hh, ?_⟩; omega) | (simp +contextual; done)))
          refine ⟨k + 1, by omega, by omega, To.mk [0, 1] rfl rfl (by decide) ?_ ?_⟩
          · (try simp (etaStruct := .none) only [push_cast, Int.cast_ofNat_Int, Nat.reduceAdd, Nat.reduceSub, Nat.reduceMul, reduceCtorEq, reduceIte, Nat.reduceEqDiff, Nat.reduceLT, Nat.reduceLeDiff, Nat.reduceBEq, Int.reduceToNat, Int.reduceLE, Int.reduceLT, st]); (try simp (disch := omega) only [wrap_in, wk_self, Int.tdiv_eq_ediv_of_nonneg, Int.tmod_eq_emod_of_nonneg]); (repeat (with_reducible refine And.intro ?_ ?_; · first | omega | decide | (simp; done) | (simp; omega) | (intro hh; refine ⟨hh, ?_⟩; omega) | (simp +contextual; done))); (try simp (etaStruct := .none) only [push_cast, Int.cast_ofNat_Int, Nat.reduceAdd, Nat.reduceSub, Nat.reduceMul, reduceCtorEq, reduceIte, Nat.reduceEqDiff, Nat.reduceLT, Nat.reduceLeDiff, Nat.reduceBEq, Int.reduceToNat, Int.reduceLE, Int.reduceLT, st]); (try simp (disch := omega) only [wrap_in, wk_self, Int.tdiv_eq_ediv_of_nonneg, Int.tmod_eq_emod_of_nonneg]); (repeat (with_reducible refine And.intro ?_ ?_; · first | omega | decide | (simp; done) | (simp; omega) | (intro hh; refine ⟨hh, ?_⟩; omega) | (simp +contextual; done)))
          · (try simp (etaStruct := .none) only [push_cast, Int.cast_ofNat_Int, Nat.reduceAdd, Nat.reduceSub, Nat.reduceMul, reduceCtorEq, reduceIte, Nat.reduceEqDiff, Nat.reduceLT, Nat.reduceLeDiff, Nat.reduceBEq, Int.reduceToNat, Int.reduceLE, Int.reduceLT, getD_in _ _ _ hlt, i64P]); (try simp (disch := omega) only [wrap_in, wk_self, Int.tdiv_eq_ediv_of_nonneg, Int.tmod_eq_emod_of_nonneg]); (repeat (with_reducible refine And.intro ?_ ?_; · first | omega | decide | (simp; done) | (simp; omega) | (intro hh; refine ⟨hh, ?_⟩; omega) | (simp +contextual; done))); (try simp (etaStruct := .none) only [push_cast, Int.cast_ofNat_Int, Nat.reduceAdd, Nat.reduceSub, Nat.reduceMul, reduceCtorEq, reduceIte, Nat.reduceEqDiff, Nat.reduceLT, Nat.reduceLeDiff, Nat.reduceBEq, Int.reduceToNat, Int.reduceLE, Int.reduceLT, getD_in _ _ _ hlt, i64P]); (try simp (disch := omega) only [wrap_in, wk_self, Int.tdiv_eq_ediv_of_nonneg, Int.tmod_eq_emod_of_nonneg]); (repeat (with_reducible refine And.intro ?_ ?_; · first | omega | decide | (simp; done) | (simp; omega) | (intro hh; refine ⟨hh, ?_⟩; omega) | (simp +contextual; done)))
      · (try simp only [decide_eq_true_eq, decide_eq_false_iff_not, Bool.not_eq_true', Bool.not_eq_false', Bool.or_eq_true, Bool.and_eq_true, Bool.or_eq_false_iff, Bool.and_eq_false_iff, Int.not_lt, Int.not_le, Bool.not_true, Bool.not_false, not_and, not_or] at h3)
        obtain rfl : k = w.mines.length := by omega
        (try simp (etaStruct := .none) only [push_cast, Int.cast_ofNat_Int, Nat.reduceAdd, Nat.reduceSub, Nat.reduceMul, reduceCtorEq, reduceIte, Nat.reduceEqDiff, Nat.reduceLT, Nat.reduceLeDiff, Nat.reduceBEq, Int.reduceToNat, Int.reduceLE, Int.reduceLT]); (try simp (disch := omega) only [wrap_in, wk_self, Int.tdiv_eq_ediv_of_nonneg, Int.tmod_eq_emod_of_nonneg]); (repeat (with_reducible refine And.intro ?_ ?_; · first | omega | decide | (simp; done) | (simp; omega) | (intro hh; refine ⟨hh, ?_⟩; omega) | (simp +contextual; done)))
        refine loopI (fun k : Nat => ⟨[(79, I .i64 k), (78, I .i64 w.troops.length), (77, .c (.sl 7 (w.troops.map trpP))), (5, .own 0)], [(0, .row 67 1 ((wl3 w k).map u64P))], 1⟩) (fun k : Nat => k ≤ w.troops.length) (fun k : Nat => w.troops.length - k) (0) (Nat.zero_le _) (To.mk [1] rfl rfl (by decide) ?_ ?_) ?_
        · simp (etaStruct := .none) only [push_cast, Int.cast_ofNat_Int, Nat.reduceAdd, Nat.reduceSub, Nat.reduceMul, reduceCtorEq, reduceIte, Nat.reduceEqDiff, Nat.reduceLT, Nat.reduceLeDiff, Nat.reduceBEq, Int.reduceToNat, Int.reduceLE, Int.reduceLT, wl3_0]
        · simp (etaStruct := .none) only [push_cast, Int.cast_ofNat_Int, Nat.reduceAdd, Nat.reduceSub, Nat.reduceMul, reduceCtorEq, reduceIte, Nat.reduceEqDiff, Nat.reduceLT, Nat.reduceLeDiff, Nat.reduceBEq, Int.reduceToNat, Int.reduceLE, Int.reduceLT]
        rintro k hk
        (try simp (etaStruct := .none) only [push_cast, Int.cast_ofNat_Int, Nat.reduceAdd, Nat.reduceSub, Nat.reduceMul, reduceCtorEq, reduceIte, Nat.reduceEqDiff, Nat.reduceLT, Nat.reduceLeDiff, Nat.reduceBEq, Int.reduceToNat, Int.reduceLE, Int.reduceLT]); (try simp (disch := omega) only [wrap_in, wk_self, Int.tdiv_eq_ediv_of_nonneg, Int.tmod_eq_emod_of_nonneg]); (repeat (with_reducible refine And.intro ?_ ?_; · first | omega | decide | (simp; done) | (simp; omega) | (intro hh; refine ⟨hh, ?_⟩; omega) | (simp +contextual; done)))
        refine cond_i (fun h5 => ?_) (fun h5 => ?_)
        · (try simp only [decide_eq_true_eq, decide_eq_false_iff_not, Bool.not_eq_true', Bool.not_eq_false', Bool.or_eq_true, Bool.and_eq_true, Bool.or_eq_false_iff, Bool.and_eq_false_iff, Int.not_lt, Int.not_le, Bool.not_true, Bool.not_false, not_and, not_or] at h5)
          have hlt : k < w.troops.length := by omega
          have ok := trpI_ok hw hlt
          have ln := wl3_len w k
          (try simp (etaStruct := .none) only [push_cast, Int.cast_ofNat_Int, Nat.reduceAdd, Nat.reduceSub, Nat.reduceMul, reduceCtorEq, reduceIte, Nat.reduceEqDiff, Nat.reduceLT, Nat.reduceLeDiff, Nat.reduceBEq, Int.reduceToNat, Int.reduceLE, Int.reduceLT, getD_in _ _ _ hlt, trpP]); (try simp (disch := omega) only [wrap_in, wk_self, Int.tdiv_eq_ediv_of_nonneg, Int.tmod_eq_emod_of_nonneg]); (repeat (with_reducible refine And.intro ?_ ?_; · first | omega | decide | (simp; done) | (simp; omega) | (intro hh; refine ⟨hh, ?_⟩; omega) | (simp +contextual; done))); (try simp (etaStruct := .none) only [push_cast, Int.cast_ofNat_Int, Nat.reduceAdd, Nat.reduceSub, Nat.reduceMul, reduceCtorEq, reduceIte, Nat.reduceEqDiff, Nat.reduceLT, Nat.reduceLeDiff, Nat.reduceBEq, Int.reduceToNat, Int.reduceLE, Int.reduceLT, getD_in _ _ _ hlt, trpP]); (try simp (disch := omega) only [wrap_in, wk_self, Int.tdiv_eq_ediv_of_nonneg, Int.tmod_eq_emod_of_nonneg]); (repeat (with_reducible refine And.intro ?_ ?_; · first | omega | decide | (simp; done) | (simp; omega) | (intro hh; refine ⟨hh, ?_⟩; omega) | (simp +contextual; done)))
          refine callB (tleaf_s (trpI w k) ok.1 ok.2) (WkL.refl _) rfl ?_
          (try simp (etaStruct := .none) only [push_cast, Int.cast_ofNat_Int, Nat.reduceAdd, Nat.reduceSub, Nat.reduceMul, reduceCtorEq, reduceIte, Nat.reduceEqDiff, Nat.reduceLT, Nat.reduceLeDiff, Nat.reduceBEq, Int.reduceToNat, Int.reduceLE, Int.reduceLT, getD_in _ _ _ hlt, trpP]); (try simp (disch := omega) only [wrap_in, wk_self, Int.tdiv_eq_ediv_of_nonneg, Int.tmod_eq_emod_of_nonneg]); (repeat (with_reducible refine And.intro ?_ ?_; · first | omega | decide | (simp; done) | (simp; omega) | (intro hh; refine ⟨hh, ?_⟩; omega) | (simp +contextual; done))); (try simp (etaStruct := .none) only [push_cast, Int.cast_ofNat_Int, Nat.reduceAdd, Nat.reduceSub, Nat.reduceMul, reduceCtorEq, reduceIte, Nat.reduceEqDiff, Nat.reduceLT, Nat.reduceLeDiff, Nat.reduceBEq, Int.reduceToNat, Int.reduceLE, Int.reduceLT, getD_in _ _ _ hlt, trpP]); (try simp (disch := omega) only [wrap_in, wk_self, Int.tdiv_eq_ediv_of_nonneg, Int.tmod_eq_emod_of_nonneg]); (repeat (with_reducible refine And.intro ?_ ?_; · first | omega | decide | (simp; done) | (simp; omega) | (intro hh; refine ⟨hh, ?_⟩; omega) | (simp +contextual; done)))
          refine ⟨k + 1, by omega, by omega, To.mk [4] rfl rfl (by decide) ?_ ?_⟩
          · (try simp (etaStruct := .none) only [push_cast, Int.cast_ofNat_Int, Nat.reduceAdd, Nat.reduceSub, Nat.reduceMul, reduceCtorEq, reduceIte, Nat.reduceEqDiff, Nat.reduceLT, Nat.reduceLeDiff, Nat.reduceBEq, Int.reduceToNat, Int.reduceLE, Int.reduceLT, wl3_s, List.map_append, u64P]); (try simp (disch := omega) only [wrap_in, wk_self, Int.tdiv_eq_ediv_of_nonneg, Int.tmod_eq_emod_of_nonneg]); (repeat (with_reducible refine And.intro ?_ ?_; · first | omega | decide | (simp; done) | (simp; omega) | (intro hh; refine ⟨hh, ?_⟩; omega) | (simp +contextual; done))); (try simp (etaStruct := .none) only [push_cast, Int.cast_ofNat_Int, Nat.reduceAdd, Nat.reduceSub, Nat.reduceMul, reduceCtorEq, reduceIte, Nat.reduceEqDiff, Nat.reduceLT, Nat.reduceLeDiff, Nat.reduceBEq, Int.reduceToNat, Int.reduceLE, Int.reduceLT, wl3_s, List.map_append, u64P]); (try simp (disch := omega) only [wrap_in, wk_self, Int.tdiv_eq_ediv_of_nonneg, Int.tmod_eq_emod_of_nonneg]); (repeat (with_reducible refine And.intro ?_ ?_; · first | omega | decide | (simp; done) | (simp; omega) | (intro hh; refine ⟨hh, ?_⟩; omega) | (simp +contextual; done)))
          · (try simp (etaStruct := .none) only [push_cast, Int.cast_ofNat_Int, Nat.reduceAdd, Nat.reduceSub, Nat.reduceMul, reduceCtorEq, reduceIte, Nat.reduceEqDiff, Nat.reduceLT, Nat.reduceLeDiff, Nat.reduceBEq, Int.reduceToNat, Int.reduceLE, Int.reduceLT, getD_in _ _ _ hlt, trpP]); (try simp (disch := omega) only [wrap_in, wk_self, Int.tdiv_eq_ediv_of_nonneg, Int.tmod_eq_emod_of_nonneg]); (repeat (with_reducible refine And.intro ?_ ?_; · first | omega | decide | (simp; done) | (simp; omega) | (intro hh; refine ⟨hh, ?_⟩; omega) | (simp +contextual; done))); (try simp (etaStruct := .none) only [push_cast, Int.cast_ofNat_Int, Nat.reduceAdd, Nat.reduceSub, Nat.reduceMul, reduceCtorEq, reduceIte, Nat.reduceEqDiff, Nat.reduceLT, Nat.reduceLeDiff, Nat.reduceBEq, Int.reduceToNat, Int.reduceLE, Int.reduceLT, getD_in _ _ _ hlt, trpP]); (try simp (disch := omega) only [wrap_in, wk_self, Int.tdiv_eq_ediv_of_nonneg, Int.tmod_eq_emod_of_nonneg]); (repeat (with_reducible refine And.intro ?_ ?_; · first | omega | decide | (simp; done) | (simp; omega) | (intro hh; refine ⟨hh, ?_⟩; omega) | (simp +contextual; done)))
        · (try simp only [decide_eq_true_eq, decide_eq_false_iff_not, Bool.not_eq_true', Bool.not_eq_false', Bool.or_eq_true, Bool.and_eq_true, Bool.or_eq_false_iff, Bool.and_eq_false_iff, Int.not_lt, Int.not_le, Bool.not_true, Bool.not_false, not_and, not_or] at h5)
          obtain rfl : k = w.troops.length := by omega
          have ln := wl3_len w w.troops.length
          (try simp (etaStruct := .none) only [push_cast, Int.cast_ofNat_Int, Nat.reduceAdd, Nat.reduceSub, Nat.reduceMul, reduceCtorEq, reduceIte, Nat.reduceEqDiff, Nat.reduceLT, Nat.reduceLeDiff, Nat.reduceBEq, Int.reduceToNat, Int.reduceLE, Int.reduceLT]); (try simp (disch := omega) only [wrap_in, wk_self, Int.tdiv_eq_ediv_of_nonneg, Int.tmod_eq_emod_of_nonneg]); (repeat (with_reducible refine And.intro ?_ ?_; · first | omega | decide | (simp; done) | (simp; omega) | (intro hh; refine ⟨hh, ?_⟩; omega) | (simp +contextual; done)))
          refine callB (mof_s (wl3 w w.troops.length) (by omega)) (WkL.refl _) rfl ?_
          (try simp (etaStruct := .none) only [push_cast, Int.cast_ofNat_Int, Nat.reduceAdd, Nat.reduceSub, Nat.reduceMul, reduceCtorEq, reduceIte, Nat.reduceEqDiff, Nat.reduceLT, Nat.reduceLeDiff, Nat.reduceBEq, Int.reduceToNat, Int.reduceLE, Int.reduceLT]); (try simp (disch := omega) only [wrap_in, wk_self, Int.tdiv_eq_ediv_of_nonneg, Int.tmod_eq_emod_of_nonneg]); (repeat (with_reducible refine And.intro ?_ ?_; · first | omega | decide | (simp; done) | (simp; omega) | (intro hh; refine ⟨hh, ?_⟩; omega) | (simp +contextual; done)))
          (first | (refine ret0 rfl (by repeat' (first | exact trivial | exact rfl | refine ⟨?_, ?_⟩)) (Wk.of ?_); (try simp (etaStruct := .none) only [push_cast, Int.cast_ofNat_Int, Nat.reduceAdd, Nat.reduceSub, Nat.reduceMul, reduceCtorEq, reduceIte, Nat.reduceEqDiff, Nat.reduceLT, Nat.reduceLeDiff, Nat.reduceBEq, Int.reduceToNat, Int.reduceLE, Int.reduceLT]); first | done | (simp [wmarkV, *]; done) | (simp_all [wmarkV]; done)) | (refine ret0 rfl (by repeat' (first | exact trivial | exact rfl | refine ⟨?_, ?_⟩)) ?_; (try simp (etaStruct := .none) only [push_cast, Int.cast_ofNat_Int, Nat.reduceAdd, Nat.reduceSub, Nat.reduceMul, reduceCtorEq, reduceIte, Nat.reduceEqDiff, Nat.reduceLT, Nat.reduceLeDiff, Nat.reduceBEq, Int.reduceToNat, Int.reduceLE, Int.reduceLT]); (try simp [wmarkV, *]); (try (first | exact Wk.refl _ | exact Wk.nil _ | (refine Wk.tup ?_; repeat' (first | exact trivial | exact Wk.refl _ | exact Wk.nil _ | refine ⟨?_, ?_⟩ | (refine Wk.agg ?_)))))))
theorem tmark_bad (w : Wld) (hl : wldL w) (hw : worldE w ≠ 0) : Spec Try.prog 70 [wldA w] [] (.tup [.c (.v (.int .u64 0)), I .i64 (worldE w)]) [] := by
  refine spec_am Try.func70 rfl rfl mix 107 rfl [.tmp 2, .tmp 3] Try.results70 (Nat.le_of_ble_eq_true rfl) ?_
  (try simp (etaStruct := .none) only [push_cast, Int.cast_ofNat_Int, Nat.reduceAdd, Nat.reduceSub, Nat.reduceMul, reduceCtorEq, reduceIte, Nat.reduceEqDiff, Nat.reduceLT, Nat.reduceLeDiff, Nat.reduceBEq, Int.reduceToNat, Int.reduceLE, Int.reduceLT]); (try simp (disch := omega) only [wrap_in, wk_self, Int.tdiv_eq_ediv_of_nonneg, Int.tmod_eq_emod_of_nonneg]); (repeat (with_reducible refine And.intro ?_ ?_; · first | omega | decide | (simp; done) | (simp; omega) | (intro hh; refine ⟨hh, ?_⟩; omega) | (simp +contextual; done)))
  refine callP (tcheck_s w hl) (WkL.refl _) ?_
  (try simp (etaStruct := .none) only [push_cast, Int.cast_ofNat_Int, Nat.reduceAdd, Nat.reduceSub, Nat.reduceMul, reduceCtorEq, reduceIte, Nat.reduceEqDiff, Nat.reduceLT, Nat.reduceLeDiff, Nat.reduceBEq, Int.reduceToNat, Int.reduceLE, Int.reduceLT]); (try simp (disch := omega) only [wrap_in, wk_self, Int.tdiv_eq_ediv_of_nonneg, Int.tmod_eq_emod_of_nonneg]); (repeat (with_reducible refine And.intro ?_ ?_; · first | omega | decide | (simp; done) | (simp; omega) | (intro hh; refine ⟨hh, ?_⟩; omega) | (simp +contextual; done)))
  refine cond_i (fun h1 => ?_) (fun h1 => ?_)
  · (try simp only [decide_eq_true_eq, decide_eq_false_iff_not, Bool.not_eq_true', Bool.not_eq_false', Bool.or_eq_true, Bool.and_eq_true, Bool.or_eq_false_iff, Bool.and_eq_false_iff, Int.not_lt, Int.not_le, Bool.not_true, Bool.not_false, not_and, not_or] at h1)
    (try simp (etaStruct := .none) only [push_cast, Int.cast_ofNat_Int, Nat.reduceAdd, Nat.reduceSub, Nat.reduceMul, reduceCtorEq, reduceIte, Nat.reduceEqDiff, Nat.reduceLT, Nat.reduceLeDiff, Nat.reduceBEq, Int.reduceToNat, Int.reduceLE, Int.reduceLT]); (try simp (disch := omega) only [wrap_in, wk_self, Int.tdiv_eq_ediv_of_nonneg, Int.tmod_eq_emod_of_nonneg]); (repeat (with_reducible refine And.intro ?_ ?_; · first | omega | decide | (simp; done) | (simp; omega) | (intro hh; refine ⟨hh, ?_⟩; omega) | (simp +contextual; done)))
    (first | (refine ret0 rfl (by repeat' (first | exact trivial | exact rfl | refine ⟨?_, ?_⟩)) (Wk.of ?_); (try simp (etaStruct := .none) only [push_cast, Int.cast_ofNat_Int, Nat.reduceAdd, Nat.reduceSub, Nat.reduceMul, reduceCtorEq, reduceIte, Nat.reduceEqDiff, Nat.reduceLT, Nat.reduceLeDiff, Nat.reduceBEq, Int.reduceToNat, Int.reduceLE, Int.reduceLT]); first | done | (simp [*]; done) | (simp_all []; done)) | (refine ret0 rfl (by repeat' (first | exact trivial | exact rfl | refine ⟨?_, ?_⟩)) ?_; (try simp (etaStruct := .none) only [push_cast, Int.cast_ofNat_Int, Nat.reduceAdd, Nat.reduceSub, Nat.reduceMul, reduceCtorEq, reduceIte, Nat.reduceEqDiff, Nat.reduceLT, Nat.reduceLeDiff, Nat.reduceBEq, Int.reduceToNat, Int.reduceLE, Int.reduceLT]); (try simp [*]); (try (first | exact Wk.refl _ | exact Wk.nil _ | (refine Wk.tup ?_; repeat' (first | exact trivial | exact Wk.refl _ | exact Wk.nil _ | refine ⟨?_, ?_⟩ | (refine Wk.agg ?_)))))))
  · (try simp only [decide_eq_true_eq, decide_eq_false_iff_not, Bool.not_eq_true', Bool.not_eq_false', Bool.or_eq_true, Bool.and_eq_true, Bool.or_eq_false_iff, Bool.and_eq_false_iff, Int.not_lt, Int.not_le, Bool.not_true, Bool.not_false, not_and, not_or] at h1)
    exact absurd h1 hw
end Go.Proofs.Ytibknlfadoeglaa
namespace Go.Proofs.Ytibknlfadoeglaa
set_option linter.all false
open Go.RowKit Go.ChangeShapes Go.WideShapes Go.ChangeAt
def RelCs (w : World) (ps : List PV) (cs : List Value) : Prop := ∀ (j : Nat) p u, ps[j]? = some p → cs[j]? = some u → RelP w (· < w.heap.size) p u
theorem RelCs.nil {w : World} : RelCs w [] [] := fun j p u h => by simp at h
theorem RelCs.cons {w : World} {p : PV} {u : Value} {ps : List PV} {cs : List Value} (h : RelP w (· < w.heap.size) p u) (h' : RelCs w ps cs) : RelCs w (p :: ps) (u :: cs) := by
  intro j q v h1 h2
  cases j with
  | zero => simp at h1 h2; subst h1 h2; exact h
  | succ j => exact h' j q v (by simpa using h1) (by simpa using h2)
theorem RelCs.append {w : World} : ∀ {ps qs : List PV} {cs ds : List Value}, ps.length = cs.length → RelCs w ps cs → RelCs w qs ds → RelCs w (ps ++ qs) (cs ++ ds)
  | [], _, [], _, _, _, h => h
  | [], _, _ :: _, _, hl, _, _ => by simp at hl
  | _ :: _, _, [], _, hl, _, _ => by simp at hl
  | p :: ps, qs, c :: cs, ds, hl, h, h' => by
    refine RelCs.cons (h 0 p c rfl rfl) (RelCs.append (by simpa using hl) (fun j q v h1 h2 => h (j + 1) q v (by simpa using h1) (by simpa using h2)) h')
def OpA (P : Program) (T sz : Nat) (w : World) {α : Type} (pv : α → List PV) (ok : α → Prop) : Prop :=
  ∃ (β : Type) (enc : β → List Value) (okb : β → Prop) (f : β → α), Opens P T sz w enc okb ∧ ∀ y, okb y → ok (f y) ∧ (pv (f y)).length = sz ∧ (enc y).length = sz ∧ RelCs w (pv (f y)) (enc y)
section
variable {P : Program} {T : Nat} {w : World}
theorem OpA.i64 (h : P.underlying T = some (.int .i64)) : OpA P T 1 w i64P In64 :=
  ⟨_, _, _, id, Opens.i64 h, fun y hy => ⟨hy, rfl, rfl, .cons (relP_v rfl) .nil⟩⟩
theorem OpA.u64 (h : P.underlying T = some (.int .u64)) : OpA P T 1 w u64P (fun n => n < 18446744073709551616) :=
  ⟨_, _, _, id, Opens.u64 h, fun y hy => ⟨hy, rfl, rfl, .cons (relP_v rfl) .nil⟩⟩
def u32P (n : Nat) : List PV := [.v (.int .u32 n)]
theorem OpA.u32 (h : P.underlying T = some (.int .u32)) : OpA P T 1 w u32P (fun n => n < 4294967296) :=
  ⟨_, _, _, id, Opens.u32 h, fun y hy => ⟨hy, rfl, rfl, .cons (relP_v rfl) .nil⟩⟩
theorem OpA.bool (h : P.underlying T = some .bool) : OpA P T 1 w boolP (fun _ => True) :=
  ⟨_, _, _, id, Opens.bool h, fun y hy => ⟨hy, rfl, rfl, .cons (relP_v rfl) .nil⟩⟩
theorem OpA.str (h : P.underlying T = some .string) : OpA P T 1 w strP (fun s => s.size ≤ 140737488351232) :=
  ⟨_, _, _, id, Opens.str h, fun y hy => ⟨hy, rfl, rfl, .cons (relP_v rfl) .nil⟩⟩
theorem OpA.map {sz : Nat} {α β : Type} {pv : α → List PV} {ok : α → Prop} {pv' : β → List PV} {ok' : β → Prop} (h : OpA P T sz w pv ok) (f : α → β) (hf : ∀ x, pv' (f x) = pv x) (hok : ∀ x, ok x → ok' (f x)) : OpA P T sz w pv' ok' := by
  obtain ⟨γ, enc, okb, g, h1, h2⟩ := h
  exact ⟨γ, enc, okb, fun y => f (g y), h1, fun y hy => by obtain ⟨a, b, c, d⟩ := h2 y hy; exact ⟨hok _ a, by rw [hf]; exact b, c, by rw [hf]; exact d⟩⟩
theorem OpA.slice {E sz bts : Nat} {α : Type} {pv : α → List PV} {ok : α → Prop} (hT : P.underlying T = some (.slice E)) (hc : P.cellsOf E = sz) (hsz : 0 < sz) (hby : P.bytesOf E = bts) (hE : OpA P E sz w pv ok) :
    OpA P T 1 w (fun xs : List α => [.sl sz (xs.map pv)]) (fun xs => (∀ x ∈ xs, ok x) ∧ xs.length * bts ≤ 140737488351232 ∧ xs.length ≤ 9223372036854775807) := by
  obtain ⟨γ, enc, okb, g, h1, h2⟩ := hE
  refine ⟨_, _, _, fun s => s.xs.map g, Opens.slice hT hc hsz hby h1, fun s hs => ⟨⟨?_, ?_, ?_⟩, rfl, rfl, ?_⟩⟩
  · intro x hx
    obtain ⟨y, hy, rfl⟩ := List.mem_map.1 hx
    exact (h2 y (hs.each y hy).1).1
  · have := hs.reach
    have h3 : s.xs.length * bts ≤ s.c * bts := Nat.mul_le_mul_right _ hs.cap
    simp only [List.length_map]; omega
  · have h3 := hs.cap; have h4 := hs.max; unfold maxLen at h4; simp only [List.length_map]; omega
  · refine .cons ?_ .nil
    have := rel_sl (pv := fun y => pv (g y)) hs fun y hy ho => by
      obtain ⟨_, a, b, d⟩ := h2 y ho
      exact ⟨a, d⟩
    simpa [List.map_map, Function.comp_def] using this
def OpAF (P : Program) (w : World) (fs : List Field) (o sz : Nat) {α : Type} (pv : α → List PV) (ok : α → Prop) : Prop :=
  ∃ (β : Type) (enc : β → List Value) (okb : β → Prop) (f : β → α), OpensF P w fs o sz enc okb ∧ ∀ y, okb y → ok (f y) ∧ (pv (f y)).length = sz ∧ (enc y).length = sz ∧ RelCs w (pv (f y)) (enc y)
theorem OpAF.nil {o : Nat} : OpAF P w [] o 0 (fun _ : Unit => []) (fun _ => True) :=
  ⟨_, _, _, id, OpensF.nil, fun y hy => ⟨trivial, rfl, rfl, .nil⟩⟩
theorem OpAF.cons {f : Field} {fs : List Field} {o n sz : Nat} {α β : Type} {pv : α → List PV} {ok : α → Prop} {pv' : β → List PV} {ok' : β → Prop}
    (ho : f.offset = o) (hn : P.cellsOf f.type = n) (h : OpA P f.type n w pv ok) (h' : OpAF P w fs (o + n) sz pv' ok') :
    OpAF P w (f :: fs) o (n + sz) (fun x : α × β => pv x.1 ++ pv' x.2) (fun x => ok x.1 ∧ ok' x.2) := by
  obtain ⟨γ, enc, okb, g, h1, h2⟩ := h
  obtain ⟨γ', enc', okb', g', h1', h2'⟩ := h'
  refine ⟨_, _, _, fun y => (g y.1, g' y.2), OpensF.cons ho hn h1 h1', fun y hy => ?_⟩
  obtain ⟨a, b, c, d⟩ := h2 y.1 hy.1
  obtain ⟨a', b', c', d'⟩ := h2' y.2 hy.2
  exact ⟨⟨a, a'⟩, by simp [b, b'], by simp [c, c'], .append (by rw [b, c]) d d'⟩
theorem OpA.struct {sz : Nat} {fs : Array Field} {α : Type} {pv : α → List PV} {ok : α → Prop} (hT : P.underlying T = some (.struct fs)) (hc : P.cellsOf T = sz) (h : OpAF P w fs.toList 0 sz pv ok) : OpA P T sz w pv ok := by
  obtain ⟨γ, enc, okb, g, h1, h2⟩ := h
  exact ⟨γ, enc, okb, g, Opens.struct hT hc h1, h2⟩
theorem OpA.arg {sz : Nat} {α : Type} {pv : α → List PV} {ok : α → Prop} (h : OpA P T sz w pv ok) {H : Type} {eH : TypeId × Value → H} {v : Value} {d : DataW H} {p : List MemPlace}
    (hT : DataW.Trod eH P w 0 (fun _ => true) true T v d p) {ts : List TypeId} {ds : List (DataW H)} (hz : (DataW.weightsEach P ts ds).all (· ≤ reachBytes) = true) (j : Nat) (h1 : ts[j]? = some T) (h2 : ds[j]? = some d) : ∃ x : α, ok x ∧ (pv x).length = v.cells.toList.length ∧ RelCs w (pv x) v.cells.toList := by
  obtain ⟨γ, enc, okb, g, k1, k2⟩ := h
  obtain ⟨y, hy, ho⟩ := Opens.arg k1 hT hz j h1 h2
  obtain ⟨a, b, c, e⟩ := k2 y ho
  exact ⟨g y, a, by rw [hy, b, c], by rw [hy]; exact e⟩
theorem rel_one {p : PV} {v : Value} (hv : v.cells = #[v]) (hr : RelCs w [p] v.cells.toList) : RelA (· < 0) w (· < w.heap.size) (fun _ => none) (.c p) v :=
  relA_c (hr 0 p v rfl (by rw [hv]; rfl))
theorem relL_of_cs {U : Nat → Prop} {β : Nat → Option Bind} : ∀ {ps : List PV} {cs : List Value}, ps.length = cs.length → RelCs w ps cs → RelL U w (· < w.heap.size) β (ps.map .c) cs
  | [], [], _, _ => relL_nil
  | [], _ :: _, h, _ => by simp at h
  | _ :: _, [], h, _ => by simp at h
  | p :: ps, c :: cs, h, hr => by
    rw [List.map_cons]
    exact relL_cons (relA_c (hr 0 p c rfl rfl)) (relL_of_cs (by simpa using h) fun j q v h1 h2 => hr (j + 1) q v (by simpa using h1) (by simpa using h2))
theorem rel_agg {ps : List PV} {v : Value} {cs : List Value} (hv : v = .agg cs.toArray) (hl : ps.length = v.cells.toList.length) (hr : RelCs w ps v.cells.toList) : RelA (· < 0) w (· < w.heap.size) (fun _ => none) (.agg (ps.map .c)) v := by
  subst hv
  have e : (Value.agg cs.toArray).cells.toList = cs := rfl
  rw [e] at hl hr
  refine relA_agg (relL_of_cs hl hr) fun x hx => ?_
  obtain ⟨j, hj, rfl⟩ := List.getElem_of_mem hx
  exact (hr j ps[j] cs[j] (by simp) (by simp)).one
theorem one_int {base : Nat} {k : IntKind} {v : Value} (ht : P.underlying T = some (.int k)) (h : Value.okWide P w .any base T v) : v.cells = #[v] := by obtain ⟨n, rfl⟩ := okWide_int ht h; rfl
end
end Go.Proofs.Ytibknlfadoeglaa
