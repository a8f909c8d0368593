/- Package mark over lists: all, Of, Change; and the reference's MarkOf. -/
import Derived.Test.YtemogefcbemjfaaMarkW
import Derived.Test.YtemogefcbemjfaaBase
namespace Go.Proofs.Ytemogefcbemjfaa
open Go.RowKit

def mk (m : Nat) (xs : List Nat) : Nat := xs.foldl (fun m n => m ^^^ mx n) m
theorem mk_lt (xs : List Nat) : ∀ m, m < 18446744073709551616 → mk m xs < 18446744073709551616 := by
  induction xs with
  | nil => intro m h; exact h
  | cons x xs ih => intro m h; exact ih _ (xorN_lt _ _ h (mx_lt x))
theorem mk_snoc (m : Nat) (xs : List Nat) (x : Nat) : mk m (xs ++ [x]) = mk m xs ^^^ mx x := by simp [mk]
theorem mk_app (m : Nat) (xs ys : List Nat) : mk m (xs ++ ys) = mk (mk m xs) ys := by simp [mk]

/-- A slice of u64 as a value: address, capacity, elements. -/
structure U64s where
  a : Option Addr
  c : Nat
  xs : List Nat
def U64s.val (u : U64s) : Value := .slice u.a u.xs.length u.c
def U64s.enc (u : U64s) : List Value := [u.val]
def flat (ls : List U64s) : List Nat := (ls.map U64s.xs).flatten

theorem flat_snoc (ls : List U64s) (k : Nat) (h : k < ls.length) : flat (ls.take (k + 1)) = flat (ls.take k) ++ ls[k].xs := by
  rw [take_snoc' ls k h]; simp only [flat, List.map_append, List.flatten_append, List.map_cons, List.map_nil, List.flatten_cons, List.flatten_nil, List.append_nil]

set_option maxHeartbeats 800000 in
theorem all_any (a : Option Addr) (c B : Nat) (ls : List U64s) (w : World) (hm : ls.length ≤ 1000) (hls : Els w B a 1 U64s.enc ls) (hin : ∀ u ∈ ls, Els w B u.a 1 e64 u.xs ∧ u.xs.length ≤ maxLen) :
    Calls Try.prog 83 #[.slice a ls.length c] w fun e w' => e = .returned (.int .u64 (mk 0 (flat ls) : Nat)) ∧ w = w' := by
  have H := Lib.hid hls; clear hls
  have HI := Lib.hid hin; clear hin
  go_enter Try.func83, Try.ntmps83
  go_wp2_with fail
  go_loop [3, 10] (fun m i => ∃ k : Nat, k ≤ ls.length ∧ i = .int .i64 k ∧ m = .int .u64 (mk 0 (flat (ls.take k)) : Nat)) (fun _ i => ls.length - (intOf i).toNat)
  case atStart => exact ⟨0, by omega, rfl, rfl⟩
  case round =>
    obtain ⟨k, hk, rfl, rfl⟩ := hrel
    by_cases hlt : k < ls.length
    · obtain ⟨b, o, rfl, hb, hc⟩ := H.out.get k hlt
      have hc := hc 0 _ rfl
      simp only [Nat.mul_one, Nat.add_zero, U64s.val] at hc
      obtain ⟨hu, hmax⟩ := HI.out ls[k] (List.getElem_mem hlt)
      have hs := flat_snoc ls k hlt
      generalize ls[k] = u at hc hu hmax hs
      obtain ⟨ua, uc, xs⟩ := u
      have HS := Lib.hid hs; clear hs
      have HU := Lib.hid hu; clear hu
      simp only [maxLen] at hmax hc
      generalize hM : mk 0 (flat (ls.take k)) = M
      have hMlt : M < 18446744073709551616 := by rw [← hM]; exact mk_lt _ _ (by decide)
      have HM := Lib.hid hM; clear hM
      have HL := Lib.hid hMlt; clear hMlt
      go_wp2_with fail
      go_loop [3, 7, 16] (fun m _ i => ∃ j : Nat, j ≤ xs.length ∧ i = .int .i64 j ∧ m = .int .u64 (mk M (xs.take j) : Nat)) (fun _ _ i => xs.length - (intOf i).toNat)
      case atStart => exact ⟨0, by omega, rfl, rfl⟩
      case round =>
        obtain ⟨j, hj, rfl, rfl⟩ := hrel
        by_cases hlt2 : j < xs.length
        · obtain ⟨b2, o2, he2, hb2, hc2⟩ := HU.out.u64 j hlt2
          subst he2
          have hs2 : mk M (xs.take (j + 1)) = mk M (xs.take j) ^^^ mx xs[j] := by rw [take_snoc' xs j hlt2, mk_snoc]
          have HS2 := Lib.hid hs2; clear hs2
          have hl2 := mk_lt (xs.take j) M HL.out
          generalize mk M (xs.take j) = Y at *
          generalize xs[j] = x at *
          go_wp2_with (go_at_call 17; refine (turn_any _ _ hl2 _).mono ?_; rintro e w' ⟨rfl, rfl⟩)
          go_round
          case rel => exact ⟨j + 1, by omega, by go_num, by rw [HS2.out]⟩
          case measure => simp [intOf]; omega
        · have hj2 : j = xs.length := by omega
          go_wp2_with fail
          go_round
          case rel => exact ⟨k + 1, by omega, by go_num, by rw [HS.out, mk_app, HM.out, hj2, List.take_length]⟩
          case measure => simp [intOf]; omega
    · go_wp2_with fail
      go_ret
      exact ⟨ret_u64 (by rw [List.take_of_length_le (by omega)]), rfl⟩
end Go.Proofs.Ytemogefcbemjfaa
