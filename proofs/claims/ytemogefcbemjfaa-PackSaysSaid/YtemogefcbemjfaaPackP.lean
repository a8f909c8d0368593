/- Package pack: Put; the reference's Packed. -/
import Derived.Test.YtemogefcbemjfaaPackW
import Derived.Lib.Varint
namespace Go.Proofs.Ytemogefcbemjfaa
open Go.RowKit
set_option maxHeartbeats 1000000 in
set_option maxRecDepth 20000 in
theorem packed_any (f : Nat) : f ≤ 9 → ∀ (n : Nat) (w : World), n < 18446744073709551616 → n < 128 ^ (f + 1) →
    Calls Try.prog 68 #[.int .u64 n] w fun e w' => e = .returned (.string ⟨(packF f n).toArray⟩) ∧ Below w.heap.size w w' := by
  induction f with
  | zero =>
    intro _ n w h hf
    have h1 : n < 128 := by simpa using hf
    clear hf
    rw [packF_small 0 n h1]
    go_enter Try.func68, Try.ntmps68
    go_wp2_with fail
    refine (bytes_any _ _ (w.heap.size + 1) [n] _ (by simp) ?_ (by simp) (by simp; omega)).mono ?_
    · refine .inr ⟨w.heap.size, 0, rfl, by omega, fun i j v hv => ?_⟩
      match i, j, hv with
      | 0, 0, hv => simp [ei64] at hv; subst hv; simp [go_sem]
      | 0, j + 1, hv => simp [ei64] at hv
      | i + 1, j, hv => simp at hv
    rintro e w1 ⟨rfl, hb⟩
    have HB := PLift.up (((below_lit w _).trans (hb.mono (by simp))))
    clear hb
    go_wp2_with fail
    go_returns
    exact ⟨rfl, HB.down⟩
  | succ f ih =>
    intro hf9 n w h hf
    by_cases h1 : n < 128
    · clear ih hf
      rw [packF_small _ n h1]
      go_enter Try.func68, Try.ntmps68
      go_wp2_with fail
      refine (bytes_any _ _ (w.heap.size + 1) [n] _ (by simp) ?_ (by simp) (by simp; omega)).mono ?_
      · refine .inr ⟨w.heap.size, 0, rfl, by omega, fun i j v hv => ?_⟩
        match i, j, hv with
        | 0, 0, hv => simp [ei64] at hv; subst hv; simp [go_sem]
        | 0, j + 1, hv => simp [ei64] at hv
        | i + 1, j, hv => simp at hv
      rintro e w1 ⟨rfl, hb⟩
      have HB := PLift.up (((below_lit w _).trans (hb.mono (by simp))))
      clear hb
      go_wp2_with fail
      go_returns
      exact ⟨rfl, HB.down⟩
    · have hq : n / 128 < 128 ^ (f + 1) := by rw [Nat.pow_succ] at hf; exact Nat.div_lt_of_lt_mul (by omega)
      have IH := PLift.up (fun w => ih (by omega) (n / 128) w (by omega) hq)
      have hp : packF (f + 1) n = UInt8.ofNat (128 + n % 128) :: packF f (n / 128) := by simp [packF, h1]
      have HP := PLift.up hp
      have hl := (packF_len f (n / 128)).2
      clear ih hf hq hp
      go_enter Try.func68, Try.ntmps68
      go_wp2_with fail
      refine (bytes_any _ _ (w.heap.size + 1) [128 + n % 128] _ (by simp) ?_ (by simp) (by simp; omega)).mono ?_
      · refine .inr ⟨w.heap.size, 0, rfl, by omega, fun i j v hv => ?_⟩
        match i, j, hv with
        | 0, 0, hv => simp [ei64] at hv; subst hv; simp [go_sem]
        | 0, j + 1, hv => simp [ei64] at hv
        | i + 1, j, hv => simp at hv
      rintro e w1 ⟨rfl, hb⟩
      have HB := PLift.up (((below_lit w _).trans (hb.mono (by simp))))
      clear hb
      have hsz := HB.down.size
      obtain ⟨T1, hT1⟩ : ∃ T1, T1 = ByteArray.mk (List.map UInt8.ofNat [128 + n % 128]).toArray := ⟨_, rfl⟩
      have hs1 : T1.size = 1 := by rw [hT1]; rfl
      have HQ : PLift (T1 ++ ByteArray.mk (packF f (n / 128)).toArray = ByteArray.mk (packF (f + 1) n).toArray) := PLift.up (by rw [HP.down, hT1]; rfl)
      rw [← hT1]
      clear hT1
      go_wp2_with fail
      refine (IH.down _).mono ?_
      rintro e w2 ⟨rfl, hb2⟩
      have HB2 := PLift.up (HB.down.trans (hb2.mono hsz))
      clear hb2
      have hpl : (ByteArray.mk (packF f (n / 128)).toArray).size ≤ f + 1 := by show (packF f (n / 128)).toArray.size ≤ f + 1; simpa using hl
      generalize ByteArray.mk (packF f (n / 128)).toArray = T at *
      clear hl
      go_wp2_with fail
      go_returns
      exact ⟨congrArg (fun s => Ending.returned (.string s)) HQ.down, HB2.down⟩
def bC (l : List UInt8) : List Value := l.map fun b => .int .u8 (b.toNat : Int)
theorem or128 (m : Nat) : bits .or .u8 ((m : Int) % 256) 128 = ((128 + m % 128 : Nat) : Int) := by
  rw [Lib.u8_or128_any _ (by omega) (by omega)]; omega
set_option maxHeartbeats 1000000 in
set_option maxRecDepth 20000 in
theorem put_any (n : Nat) (h : n < 18446744073709551616) (w : World) :
    Calls Try.prog 67 #[.int .u64 n] w fun e w' => e = .returned (.string (packS n)) ∧ Below w.heap.size w w' := by
  go_enter Try.func67, Try.ntmps67
  go_wp2_with fail
  go_loopw [0, 3] (fun mv v wr => ∃ (m f : Nat) (done : List UInt8), mv = .int .u64 m ∧ m < 18446744073709551616 ∧ Hid (m < 128 ^ (f + 1) ∧ done ++ packF f m = packB n ∧ done.length + f = 9 ∧ wr.ownsRow w.heap.size 5 1 v done.length (bC done) ∧ Below w.heap.size w wr)) (fun mv _ _ => (intOf mv).toNat)
  case atStart => exact ⟨n, 9, [], rfl, h, by simpa using Nat.lt_of_lt_of_le h (by decide), rfl, rfl, ⟨by simp [bC], .inl ⟨rfl, rfl⟩⟩, Below.refl _ _⟩
  case round =>
    obtain ⟨m, f, done, rfl, hm, hI⟩ := hrel
    have hor := or128 m
    have hdl : done.length ≤ 9 := by have := hI.out.2.2.1; omega
    have hB := hI.out.2.2.2.2.size
    by_cases h8 : 128 ≤ m
    · obtain ⟨f, rfl⟩ : ∃ f', f = f' + 1 := by
        cases f with
        | zero => have := hI.out.1; simp at this; omega
        | succ f => exact ⟨f, rfl⟩
      have HI := PLift.up hI.out
      clear hI
      go_wp2_with (at_builtin; refine wpApp _ rfl _ _ _ rfl w.heap.size _ _ _ elT_u8 _ done.length (bC done) rfl (HI.down.2.2.2.1.alloc _) (some ⟨wr.heap.size, 0, none⟩) 1 1 [.int .u8 ((128 + m % 128 : Nat) : Int)] rfl ?_ ?_ ?_ ?_ ?_ ?_ ?_ ?_)
      · rfl
      · simp
      · intro ad had j u hu
        obtain rfl := Option.some.inj had
        match j, hu with
        | 0, hu => simp at hu; subst hu; simp [Addr.add_lit, go_sem]
        | j + 1, hu => simp at hu
      · simp [Value.oneCell']
      · simp only [maxLen]; omega
      · omega
      · simp; omega
      · intro v' w2 hown hg _
        have hbb : Below w.heap.size w w2 := (HI.down.2.2.2.2.alloc (by omega) _).grown hg (by simp; omega) (fun q hq => (HI.down.2.2.2.1.lt q hq).1)
        have HO := PLift.up hown
        have HBB := PLift.up hbb
        clear hown hbb hg
        go_wp2_with fail
        go_roundw
        case rel =>
          have hp : packF (f + 1) m = UInt8.ofNat (128 + m % 128) :: packF f (m / 128) := by simp [packF]; omega
          refine ⟨m / 128, f, done ++ [UInt8.ofNat (128 + m % 128)], ?_, by omega, ?_, ?_, ?_, ?_, HBB.down⟩
          · simp
          · have := HI.down.1; rw [Nat.pow_succ] at this; exact Nat.div_lt_of_lt_mul (by omega)
          · have := HI.down.2.1; rw [hp] at this; simpa using this
          · have := HI.down.2.2.1; simp; omega
          · have := HO.down
            have e : bC (done ++ [UInt8.ofNat (128 + m % 128)]) = bC done ++ [.int .u8 ((128 + m % 128 : Nat) : Int)] := by
              simp only [bC, List.map_append, List.map_cons, List.map_nil]
              rw [u8_ofNat_toNat _ (by omega)]
            rw [e]; simpa using this
        case measure => simp [intOf]; omega
    · have HI := PLift.up hI.out
      clear hI
      go_wp2_with (at_builtin; refine wpApp _ rfl _ _ _ rfl w.heap.size _ _ _ elT_u8 _ done.length (bC done) rfl (HI.down.2.2.2.1.alloc _) (some ⟨wr.heap.size, 0, none⟩) 1 1 [.int .u8 (m : Int)] rfl ?_ ?_ ?_ ?_ ?_ ?_ ?_ ?_)
      · rfl
      · simp
      · intro ad had j u hu
        obtain rfl := Option.some.inj had
        match j, hu with
        | 0, hu => simp at hu; subst hu; simp [Addr.add_lit, go_sem]
        | j + 1, hu => simp at hu
      · simp [Value.oneCell']
      · simp only [maxLen]; omega
      · omega
      · simp; omega
      · intro v' w2 hown hg _
        have hbb : Below w.heap.size w w2 := (HI.down.2.2.2.2.alloc (by omega) _).grown hg (by simp; omega) (fun q hq => (HI.down.2.2.2.1.lt q hq).1)
        have hfin : done ++ [UInt8.ofNat m] = packB n := by have := HI.down.2.1; rw [packF_small f m (by omega)] at this; exact this
        have e : bC done ++ [.int .u8 (m : Int)] = bC (packB n) := by
          rw [← hfin]
          simp only [bC, List.map_append, List.map_cons, List.map_nil]
          rw [u8_ofNat_toNat _ (by omega)]
        have hlen : done.length + 1 = (packB n).length := by rw [← hfin]; simp
        rw [e, hlen] at hown
        rcases hown.2 with ⟨_, h0⟩ | ⟨g, cap, cur, rfl, _, hgc, _⟩
        · omega
        have hcell := hown.cells (g := g) rfl
        have hcv := run_convert_bytes_back (P := Try.prog) w2 108 9 5 ⟨g, 0, none⟩ cap (packB n) Try.underlying108 Try.underlying5 Try.underlying9 (by
          intro j hj
          exact hcell j _ (by simp only [bC, List.getElem?_map, List.getElem?_eq_getElem hj, Option.map_some]))
        have HBB := PLift.up hbb
        clear hown hbb hg hcell e hfin HI hgc
        generalize hq : (packB n).length = q at *
        clear hlen hdl hB
        go_wp2_with fail
        go_returns
        exact ⟨rfl, HBB.down⟩
end Go.Proofs.Ytemogefcbemjfaa
