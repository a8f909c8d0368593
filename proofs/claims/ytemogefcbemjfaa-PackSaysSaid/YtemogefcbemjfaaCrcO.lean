/- Package crc: Open; the reference's Sealed and Opened. -/
import Derived.Test.YtemogefcbemjfaaCrcS
namespace Go.Proofs.Ytemogefcbemjfaa
open Go.RowKit

theorem str_ne {t s : ByteArray} (h : ¬ t = s) : (t.toList == s.toList) = false := by
  rw [beq_eq_false_iff_ne]
  intro he
  apply h
  rw [ByteArray.toList_eq, ByteArray.toList_eq] at he
  cases t; cases s
  simp only [ByteArray.mk.injEq] at *
  exact Array.toList_inj.1 he

def openR (s : ByteArray) : ByteArray × Int :=
  if s.size < 4 then (⟨#[]⟩, 3) else if sealS (s.extract 0 (s.size - 4)) = s then (s.extract 0 (s.size - 4), 0) else (⟨#[]⟩, 5)

theorem extract_size (s : ByteArray) (h : 4 ≤ s.size) : (s.extract 0 (s.size - 4)).size = s.size - 4 := by rw [ByteArray.size_extract]; omega

set_option maxHeartbeats 800000 in
theorem open_any (s : ByteArray) (w : World) (hs : s.size ≤ 140737488351232) :
    Calls Try.prog 21 #[.string s] w fun e w' => e = .returned (.tuple #[.string (openR s).1, .int .i64 (openR s).2]) ∧ Below w.heap.size w w' := by
  by_cases h4 : s.size < 4
  · have hr : openR s = (⟨#[]⟩, 3) := by simp [openR, h4]
    rw [hr]
    go_enter Try.func21, Try.ntmps21
    go_wp2_with fail
    go_ret2
    exact ⟨rfl, Below.refl _ _⟩
  · have hex := extract_size s (by omega)
    by_cases hq : sealS (s.extract 0 (s.size - 4)) = s
    · have hr : openR s = (s.extract 0 (s.size - 4), 0) := by simp [openR, h4, hq]
      rw [hr]
      have HQ := Lib.hid hq; clear hq hr
      go_enter Try.func21, Try.ntmps21
      go_wp2_with fail
      refine (seal_any _ _ (by omega)).mono ?_
      rintro e w1 ⟨rfl, hb⟩
      rw [HQ.out]
      have HB := Lib.hid hb; clear hb
      go_wp2_with fail
      go_ret2
      exact ⟨rfl, HB.out⟩
    · have hr : openR s = (⟨#[]⟩, 5) := by simp [openR, h4, hq]
      rw [hr]
      go_enter Try.func21, Try.ntmps21
      go_wp2_with fail
      refine (seal_any _ _ (by omega)).mono ?_
      rintro e w1 ⟨rfl, hb⟩
      have HB := Lib.hid hb; clear hb hr hex
      generalize sealS (s.extract 0 (s.size - 4)) = t at *
      have hne := str_ne hq
      clear hq
      go_wp2_with fail
      go_ret2
      exact ⟨rfl, HB.out⟩

set_option maxHeartbeats 800000 in
theorem sealed_any (s : ByteArray) (w : World) (hs : s.size ≤ 140737488351232) :
    Calls Try.prog 27 #[.string s] w fun e w' => e = .returned (.string (sealS s)) ∧ Below w.heap.size w w' := by
  have hS : sealS s = s ++ ⟨(sealB (crcM 0 s.data.toList)).toArray⟩ := rfl
  have hl := crcM_lt 0 s.data.toList
  go_enter Try.func27, Try.ntmps27
  go_wp2_with fail
  refine (crcMore_any 0 s w (by decide) hs).mono ?_
  rintro e w1 ⟨rfl, hb1⟩
  generalize crcM 0 s.data.toList = n at *
  have HS := Lib.hid hS; clear hS
  have HB := Lib.hid hb1; clear hb1
  go_wp2_with fail
  refine (bytes_any _ _ (w1.heap.size + 1) [n % 256, n / 256 % 256, n / 65536 % 256, n / 16777216 % 256] _ (by simp) ?_ (by simp) ?_).mono ?_
  · refine .inr ⟨w1.heap.size, 0, rfl, by omega, fun i j v hv => ?_⟩
    match i, j, hv with
    | 0, 0, hv => simp [ei64] at hv; subst hv; simp [go_sem]
    | 1, 0, hv => simp [ei64] at hv; subst hv; simp [go_sem]
    | 2, 0, hv => simp [ei64] at hv; subst hv; simp [go_sem]
    | 3, 0, hv => simp [ei64] at hv; subst hv; simp [go_sem]; omega
    | 0, j + 1, hv => simp [ei64] at hv
    | 1, j + 1, hv => simp [ei64] at hv
    | 2, j + 1, hv => simp [ei64] at hv
    | 3, j + 1, hv => simp [ei64] at hv
    | i + 4, j, hv => simp at hv
  · intro x hx; simp at hx; rcases hx with rfl | rfl | rfl | rfl <;> omega
  rintro e w2 ⟨rfl, hb2⟩
  have HB2 := Lib.hid hb2; clear hb2
  have hsz : (ByteArray.mk (sealB n).toArray).size = 4 := rfl
  have hT : ByteArray.mk (List.map UInt8.ofNat [n % 256, n / 256 % 256, n / 65536 % 256, n / 16777216 % 256]).toArray = ByteArray.mk (sealB n).toArray := rfl
  rw [hT]
  generalize ByteArray.mk (sealB n).toArray = T at *
  clear hT
  go_wp2_with fail
  go_ret
  refine ⟨congrArg Ending.returned (congrArg Value.string HS.out.symm), ?_⟩
  exact HB.out.trans (((below_lit w1 _).trans (HB2.out.mono (by simp))).mono HB.out.size)

set_option maxHeartbeats 800000 in
theorem opened_any (s : ByteArray) (w : World) (hs : s.size ≤ 140737488351232) :
    Calls Try.prog 22 #[.string s] w fun e w' => e = .returned (.tuple #[.string (openR s).1, .int .i64 (openR s).2]) ∧ Below w.heap.size w w' := by
  by_cases h4 : s.size < 4
  · have hr : openR s = (⟨#[]⟩, 3) := by simp [openR, h4]
    rw [hr]
    go_enter Try.func22, Try.ntmps22
    go_wp2_with fail
    go_ret2
    exact ⟨rfl, Below.refl _ _⟩
  · have hex := extract_size s (by omega)
    by_cases hq : sealS (s.extract 0 (s.size - 4)) = s
    · have hr : openR s = (s.extract 0 (s.size - 4), 0) := by simp [openR, h4, hq]
      rw [hr]
      have HQ := Lib.hid hq; clear hq hr
      go_enter Try.func22, Try.ntmps22
      go_wp2_with fail
      refine (sealed_any _ _ (by omega)).mono ?_
      rintro e w1 ⟨rfl, hb⟩
      rw [HQ.out]
      have HB := Lib.hid hb; clear hb
      go_wp2_with fail
      go_ret2
      exact ⟨rfl, HB.out⟩
    · have hr : openR s = (⟨#[]⟩, 5) := by simp [openR, h4, hq]
      rw [hr]
      go_enter Try.func22, Try.ntmps22
      go_wp2_with fail
      refine (sealed_any _ _ (by omega)).mono ?_
      rintro e w1 ⟨rfl, hb⟩
      have HB := Lib.hid hb; clear hb hr hex
      generalize sealS (s.extract 0 (s.size - 4)) = t at *
      have hne := str_ne hq
      clear hq
      go_wp2_with fail
      go_ret2
      exact ⟨rfl, HB.out⟩
end Go.Proofs.Ytemogefcbemjfaa
