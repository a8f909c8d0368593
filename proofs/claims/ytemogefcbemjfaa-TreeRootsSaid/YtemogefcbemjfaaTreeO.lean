/- The reference's root of texts. -/
import Derived.Test.YtemogefcbemjfaaTreeR
import Derived.Deep.RegionHeld3
namespace Go.Proofs.Ytemogefcbemjfaa
open Go.RowKit
theorem e64_flat (xs : List Nat) : ∀ x ∈ xs, (e64 x).length = 1 := fun _ _ => rfl
theorem elT_u64t : ElT Try.prog 29 28 1 8 (.int .u64 0) := ElT.mk' Try.underlying29 (by kernel_rfl) rfl (by decide)
def slLen : Value → Nat | .slice _ n _ => n | _ => 0
theorem own_slice' {w : World} {base e sz n : Nat} {v : Value} {xs : List Value} (h : w.ownsRow base e sz v n xs) : ∃ a c, v = .slice a n c := by
  rcases h.2 with ⟨rfl, rfl⟩ | ⟨g, cap, cur, rfl, _⟩
  · exact ⟨none, 0, rfl⟩
  · exact ⟨_, _, rfl⟩
theorem own_below' {w w' : World} {base e sz n : Nat} {v : Value} {xs : List Value} (h : w.ownsRow base e sz v n xs) (hb : Below w.heap.size w w') : w'.ownsRow base e sz v n xs := by
  refine ⟨h.1, ?_⟩
  rcases h.2 with ⟨h1, h2⟩ | ⟨g, cap, cur, h1, h2, h3, h4⟩
  · exact .inl ⟨h1, h2⟩
  · exact .inr ⟨g, cap, cur, h1, h2, (hb.block g (Array.getElem?_eq_some_iff.1 h3).1).trans h3, h4⟩
set_option maxRecDepth 20000 in
set_option maxHeartbeats 2000000 in
theorem rootOf_any (a : Option Addr) (c B : Nat) (xs : List ByteArray) (w : World) (h256 : xs.length ≤ 256) (hE : Els w B a 1 eStr xs) (hall : ∀ s ∈ xs, s.size ≤ 140737488351232) (hB : B ≤ w.heap.size) :
    Calls Try.prog 81 #[.slice a xs.length c] w fun e w' => e = .returned (.int .u64 (rt pairN (xs.map leafN) : Nat)) ∧ Below w.heap.size w w' := by
  have HE := PLift.up hE
  have HA := PLift.up hall
  obtain ⟨ms0, hms0⟩ : ∃ ms, ms = xs.map leafN := ⟨_, rfl⟩
  have hml : ms0.length = xs.length := by rw [hms0]; simp
  have HG : PLift (∀ k (h : k < xs.length), (ms0.take (k + 1)).flatMap e64 = (ms0.take k).flatMap e64 ++ [.int .u64 (leafN xs[k] : Nat)]) := PLift.up (fun k h => by
    rw [take_snoc' ms0 k (by omega), List.flatMap_append]
    simp [hms0, e64])
  have HR : PLift (∀ x ∈ ms0, x < 18446744073709551616) := PLift.up (fun x hx => by
    rw [hms0] at hx
    obtain ⟨s, _, rfl⟩ := List.mem_map.1 hx
    exact leafN_lt s)
  rw [← hms0]
  have HML := PLift.up hml
  clear hE hall hms0 hml
  go_enter Try.func81, Try.ntmps81
  go_wp2_with fail
  go_loopw [3, 10] (fun v iv wr => ∃ k : Nat, k ≤ xs.length ∧ iv = .int .i64 k ∧ Hid (wr.ownsRow w.heap.size 28 1 v k ((ms0.take k).flatMap e64) ∧ Below w.heap.size w wr)) (fun _ iv _ => xs.length - (intOf iv).toNat)
  case atStart => exact ⟨0, by omega, rfl, ⟨by simp, .inl ⟨rfl, rfl⟩⟩, Below.refl _ _⟩
  case round =>
    obtain ⟨k, hk, rfl, hI⟩ := hrel
    have hBw := hI.out.2.size
    by_cases hlt : k < xs.length
    · obtain ⟨b, o, rfl, hb, hc⟩ := (HE.down.below hI.out.2 hB).get k hlt
      have c0 := hc 0 _ rfl
      simp only [Nat.mul_one, Nat.add_zero] at c0
      have hs := HA.down xs[k] (List.getElem_mem hlt)
      have HSN := PLift.up (HG.down k hlt)
      have L := PLift.up (fun w => leafOf_any xs[k] w hs)
      generalize leafN xs[k] = y at *
      generalize xs[k] = s at *
      have HI := PLift.up hI.out
      clear hI hc hs
      go_wp2_with fail
      refine (L.down _).mono ?_
      rintro e w1 ⟨rfl, hb1⟩
      have HO := PLift.up (own_below' HI.down.1 hb1)
      have HB1 := PLift.up (HI.down.2.trans (hb1.mono hBw))
      have hs1 := HB1.down.size
      clear hb1
      go_wp2_with (at_builtin; refine wpApp _ rfl _ _ _ rfl w.heap.size _ _ _ elT_u64t _ k _ rfl (HO.down.alloc _) (some ⟨w1.heap.size, 0, none⟩) 1 1 [.int .u64 (y : Nat)] rfl ?_ ?_ ?_ ?_ ?_ ?_ ?_ ?_)
      · rfl
      · simp
      · intro ad had j u hu
        obtain rfl := Option.some.inj had
        match j, hu with
        | 0, hu => simp at hu; subst hu; simp [Addr.add_lit, go_sem]
        | j + 1, hu => simp at hu
      · simp [Value.oneCell']
      · simp only [maxLen]; omega
      · omega
      · simp; omega
      · intro v' w2 hown hg _
        have HBB : PLift (Below w.heap.size w w2) := PLift.up ((HB1.down.alloc (by omega) _).grown hg (by simp; omega) (fun q hq => (HO.down.lt q hq).1))
        have HO2 := PLift.up hown
        clear hown hg
        go_wp2_with fail
        go_roundw
        case rel => exact ⟨k + 1, by omega, by go_num, by rw [HSN.down]; exact HO2.down, HBB.down⟩
        case measure => simp [intOf]; omega
    · obtain rfl : k = xs.length := by omega
      have HI := PLift.up hI.out
      clear hI
      have hown := HI.down.1
      rw [← HML.down, List.take_length] at hown
      obtain ⟨av, cv, rfl, hlen, hEm, _, _⟩ := Els.ofOwn hown (e64_flat _) (by decide)
      have hml : ms0.length ≤ 256 := by rw [HML.down]; exact h256
      have HEM := PLift.up hEm
      clear hown hEm hlen HE HA HG HML h256 hk hlt
      go_wp2_with fail
      go_loopw [3] (fun v wr' => ∃ (ms : List Nat) (a : Option Addr) (c : Nat), v = .slice a ms.length c ∧ ms.length ≤ 256 ∧ Hid (Els wr' wr'.heap.size a 1 e64 ms ∧ rt pairN ms = rt pairN ms0 ∧ (∀ x ∈ ms, x < 18446744073709551616) ∧ Below w.heap.size w wr')) (fun v _ => slLen v)
      case atStart => exact ⟨ms0, av, cv, rfl, hml, HEM.down, rfl, HR.down, HI.down.2⟩
      case round =>
        clear HEM HR HI hml hBw
        obtain ⟨ms, a2, c2, rfl, hm256, hJ⟩ := hrel
        obtain ⟨wo, rfl⟩ : ∃ wo : World, wo = wr := ⟨_, rfl⟩
        have hBo := hJ.out.2.2.2.size
        by_cases h1 : 1 < ms.length
        · have hd1 : decide ((1 : Int) < (ms.length : Int)) = true := by simp; omega
          go_wp2_with fail
          have HJ := PLift.up hJ.out
          clear hJ
          go_loopw [6, 7] (fun v iv wr => ∃ (i : Nat) (ups : List Nat), i ≤ ms.length + 1 ∧ iv = .int .i64 i ∧ ups.length ≤ 256 ∧ Hid (ups.length * 2 = i ∧ (i ≤ ms.length → ups ++ lvl pairN (ms.drop i) = lvl pairN ms) ∧ (ms.length < i → ups = lvl pairN ms) ∧ wr.ownsRow wo.heap.size 28 1 v ups.length (ups.flatMap e64) ∧ Below wo.heap.size wo wr)) (fun _ iv _ => ms.length + 1 - (intOf iv).toNat)
          case atStart => exact ⟨0, [], by omega, rfl, by simp, by simp, by simp, by omega, ⟨by simp, .inl ⟨rfl, rfl⟩⟩, Below.refl _ _⟩
          case round =>
            obtain ⟨i, ups, hk, rfl, hul, hK⟩ := hrel
            have hBi := hK.out.2.2.2.2.size
            have hu2 := hK.out.1
            by_cases hlt : i < ms.length
            · obtain ⟨b, o, rfl, hb, hc⟩ := HJ.down.1.u64 i hlt
              have hx := HJ.down.2.2.1 ms[i] (List.getElem_mem hlt)
              have hd1 := List.drop_eq_getElem_cons hlt
              by_cases hlt2 : i + 1 < ms.length
              · obtain ⟨b', o', e1, _, hc2⟩ := HJ.down.1.u64 (i + 1) hlt2
                simp only [Option.some.injEq, Addr.mk.injEq, and_true] at e1
                obtain ⟨rfl, rfl⟩ := e1
                have hy := HJ.down.2.2.1 ms[i + 1] (List.getElem_mem hlt2)
                have hd2 := List.drop_eq_getElem_cons hlt2
                have HS : PLift (ups ++ [pairN ms[i] ms[i + 1]] ++ lvl pairN (ms.drop (i + 2)) = lvl pairN ms) := PLift.up (by
                  have := hK.out.2.1 (by omega)
                  rw [hd1, hd2, lvl] at this
                  rw [← this, List.append_assoc]; rfl)
                generalize ms[i] = x at *
                generalize ms[i + 1] = y at *
                have VK : PLift (∀ w', Below wo.heap.size wo w' → w'.cell? ⟨b, o + i, none⟩ = some (.int .u64 (x : Nat)) ∧ w'.cell? ⟨b, o + (i + 1), none⟩ = some (.int .u64 (y : Nat))) := PLift.up (fun w' hw => ⟨(hw.cell (p := ⟨b, _, none⟩) hb).trans hc, (hw.cell (p := ⟨b, _, none⟩) hb).trans hc2⟩)
                have HO := PLift.up hK.out.2.2.2.1
                have V0 := PLift.up hK.out.2.2.2.2
                obtain ⟨q0, q1⟩ := VK.down _ V0.down
                have PC := PLift.up (fun w => pairOf_any x y hx hy w)
                generalize pairN x y = z at *
                have k2 : IntKind.i64.wrap ((i : Int) + 1) = (i : Int) + 1 := IntWalk.i64_in _ (by omega)
                clear hK hc hc2 hd1 hd2 hx hy
                go_wp2_with fail
                have k0 : (0 : Int) ≤ (i : Int) := by omega
                have k1 : (i : Int) < (ms.length : Int) := by omega
                have k3 : (0 : Int) ≤ (i : Int) + 1 := by omega
                have k4 : (i : Int) + 1 < (ms.length : Int) := by omega
                have k5 : ((i : Int) + 1).toNat = i + 1 := by omega
                go_region_held3 (fun w' => w'.cell? ⟨b, o + i, none⟩ = some (.int .u64 (x : Nat)) ∧ w'.cell? ⟨b, o + (i + 1), none⟩ = some (.int .u64 (y : Nat))) (first | exact VK.down _ V1.down | go_keep)
                  (first
                    | (go_at_call 77; refine (PC.down _).mono ?_; rintro e w' ⟨rfl, rfl⟩)
                    | (refine stepApp rfl _ _ _ rfl wo.heap.size _ _ _ elT_u64t _ ups.length _ rfl ((HO.down.alloc _).drew) ⟨wr.heap.size, 0, none⟩ 1 1 [.int .u64 (z : Nat)] rfl rfl (fun j u hu => by match j, hu with | 0, hu => simp at hu; subst hu; simp [Addr.add_lit, go_sem] | j + 1, hu => simp at hu) (by simp [Value.oneCell']) (by simp only [maxLen]; omega) (by omega) (by simp; omega) ?_
                       intro v' w2 hown hg
                       have V1 : PLift (Below wo.heap.size wo w2) := PLift.up (((V0.down.alloc (by omega) _).drew).grown hg (by simp; omega) (fun q hq => (HO.down.lt q hq).1))
                       have HO2 := PLift.up hown
                       clear hown hg))
                go_wp2_with fail
                go_roundw
                case rel =>
                  refine ⟨i + 2, ups ++ [z], by omega, by go_num, by simp; omega, by simp; omega, fun _ => HS.down, fun h => by omega, ?_, V1.down⟩
                  have := HO2.down
                  simpa [e64] using this
                case measure => simp [intOf]; omega
              · have HS : PLift (ups ++ [ms[i]] = lvl pairN ms) := PLift.up (by
                  have := hK.out.2.1 (by omega)
                  rw [hd1, List.drop_eq_nil_of_le (by omega), lvl] at this
                  exact this)
                generalize ms[i] = x at *
                have HO := PLift.up hK.out.2.2.2.1
                have V0 := PLift.up hK.out.2.2.2.2
                have q0 := (V0.down.cell (p := ⟨b, o + i, none⟩) hb).trans hc
                clear hK hc hd1 hx
                go_wp2_with (at_builtin; refine wpApp _ rfl _ _ _ rfl wo.heap.size _ _ _ elT_u64t _ ups.length _ rfl (HO.down.alloc _) (some ⟨wr.heap.size, 0, none⟩) 1 1 [.int .u64 (x : Nat)] rfl ?_ ?_ ?_ ?_ ?_ ?_ ?_ ?_)
                · rfl
                · simp
                · intro ad had j u hu
                  obtain rfl := Option.some.inj had
                  match j, hu with
                  | 0, hu => simp at hu; subst hu; simp [Addr.add_lit, go_sem]
                  | j + 1, hu => simp at hu
                · simp [Value.oneCell']
                · simp only [maxLen]; omega
                · omega
                · simp; omega
                · intro v' w2 hown hg _
                  have V1 : PLift (Below wo.heap.size wo w2) := PLift.up ((V0.down.alloc (by omega) _).grown hg (by simp; omega) (fun q hq => (HO.down.lt q hq).1))
                  have HO2 := PLift.up hown
                  clear hown hg
                  go_wp2_with fail
                  go_roundw
                  case rel =>
                    refine ⟨i + 2, ups ++ [x], by omega, by go_num, by simp; omega, by simp; omega, fun h => by omega, fun _ => HS.down, ?_, V1.down⟩
                    have := HO2.down
                    simpa [e64] using this
                  case measure => simp [intOf]; omega
            · have hups : ups = lvl pairN ms := by
                by_cases he : i = ms.length
                · have := hK.out.2.1 (by omega)
                  rw [he, List.drop_length, lvl, List.append_nil] at this; exact this
                · exact hK.out.2.2.1 (by omega)
              subst hups
              have hll := lvl_len pairN ms
              have hown := hK.out.2.2.2.1
              obtain ⟨av2, cv2, rfl, hlen2, hE2, _, _⟩ := Els.ofOwn hown (e64_flat _) (by decide)
              have HF : PLift (Els wr wr.heap.size av2 1 e64 (lvl pairN ms) ∧ rt pairN (lvl pairN ms) = rt pairN ms0 ∧ (∀ x ∈ lvl pairN ms, x < 18446744073709551616) ∧ Below w.heap.size w wr) := PLift.up ⟨hE2, by rw [rt_lvl]; exact HJ.down.2.1, lvl_lt ms HJ.down.2.2.1, HJ.down.2.2.2.trans (hK.out.2.2.2.2.mono hBo)⟩
              clear hK hown hE2 hlen2 HJ
              go_wp2_with fail
              go_roundw
              case rel => exact ⟨lvl pairN ms, av2, cv2, rfl, by omega, HF.down⟩
              case measure => simp [slLen]; omega
        · have HJ := PLift.up hJ.out
          clear hJ
          match ms, HJ, hm256, h1 with
          | [], HJ, _, _ =>
            go_wp2_with fail
            go_returns
            exact ⟨by rw [← HJ.down.2.1]; rfl, HJ.down.2.2.2⟩
          | [x], HJ, _, _ =>
            obtain ⟨b, o, rfl, hb, hc⟩ := HJ.down.1.u64 0 (by simp)
            simp only [List.getElem_cons_zero, Nat.add_zero] at hc
            go_wp2_with fail
            go_returns
            exact ⟨by rw [← HJ.down.2.1]; rfl, HJ.down.2.2.2⟩
          | x :: y :: l, _, _, h1 => exact absurd (by simp) h1
end Go.Proofs.Ytemogefcbemjfaa
