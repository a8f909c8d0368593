/- The reference's MarkOf over a list, and why it is what the program's fold is. -/
import Derived.Test.YtemogefcbemjfaaMarkN
namespace Go.Proofs.Ytemogefcbemjfaa
open Go.RowKit

theorem xor_ac (a b c : Nat) : (a ^^^ b) ^^^ c = (a ^^^ c) ^^^ b := by rw [Nat.xor_assoc, Nat.xor_comm b c, ← Nat.xor_assoc]
theorem mk_xor (m : Nat) (xs : List Nat) : mk m xs = m ^^^ mk 0 xs := by
  induction xs generalizing m with
  | nil => simp [mk]
  | cons x xs ih =>
    show mk (m ^^^ mx x) xs = m ^^^ mk (0 ^^^ mx x) xs
    rw [ih, ih (0 ^^^ mx x), Nat.zero_xor, Nat.xor_assoc]
theorem mk_cons (x : Nat) (xs : List Nat) : mk 0 (x :: xs) = mx x ^^^ mk 0 xs := by
  show mk (0 ^^^ mx x) xs = _
  rw [mk_xor, Nat.zero_xor]

/-- One element at index i: is it the first of its kind, and does it stand there an odd number of times? -/
def frst (l : List Nat) (i : Nat) : Bool := decide (∀ j, j < i → l.getD j 0 ≠ l.getD i 0)
def oddAt (l : List Nat) (i : Nat) : Bool := (l.count (l.getD i 0)) % 2 == 1
def moTo (l : List Nat) : Nat → Nat
  | 0 => 0
  | i + 1 => if frst l i && oddAt l i then moTo l i ^^^ mx (l.getD i 0) else moTo l i
theorem moTo_succ (l : List Nat) (i : Nat) : moTo l (i + 1) = if frst l i && oddAt l i then moTo l i ^^^ mx (l.getD i 0) else moTo l i := rfl
theorem moTo_lt (l : List Nat) : ∀ i, moTo l i < 18446744073709551616 := by
  intro i
  induction i with
  | zero => show (0 : Nat) < _; decide
  | succ i ih => rw [moTo_succ]; split; exact xorN_lt _ _ ih (mx_lt _); exact ih

/-- what is marked of all that is of none of the kinds seen -/
theorem mk_filter_part (p : Nat → Bool) (n : Nat) (hp : p n = true) (l : List Nat) :
    mk 0 (l.filter p) = mk 0 (l.filter fun x => p x && x != n) ^^^ (if l.count n % 2 == 1 then mx n else 0) := by
  induction l with
  | nil => simp [mk]
  | cons x l ih =>
    by_cases hx : x = n
    · subst hx
      simp only [List.filter_cons, hp, if_true, bne_self_eq_false, Bool.and_false, Bool.false_eq_true, if_false, List.count_cons_self, mk_cons, ih]
      rcases Nat.mod_two_eq_zero_or_one (l.count x) with h | h
      · have h2 : (l.count x + 1) % 2 = 1 := by omega
        simp [h, h2, Nat.xor_comm]
      · have h2 : (l.count x + 1) % 2 = 0 := by omega
        simp only [h, h2, beq_self_eq_true, if_true]
        rw [Nat.xor_comm (mk 0 _), ← Nat.xor_assoc, Nat.xor_self]; simp
    · have hb : (x != n) = true := by simpa using hx
      have hc : (x :: l).count n = l.count n := List.count_cons_of_ne hx
      rw [hc]
      by_cases hpx : p x = true
      · simp only [List.filter_cons, hpx, hb, Bool.and_self, if_true, mk_cons, ih, Nat.xor_assoc]
      · have hpf : p x = false := by simpa using hpx
        simp only [List.filter_cons, hpf, Bool.false_and, Bool.false_eq_true, if_false, ih]

def unseen (l : List Nat) (i : Nat) (x : Nat) : Bool := !((l.take i).contains x)
theorem moTo_eq (l : List Nat) : ∀ i, i ≤ l.length → mk 0 l = moTo l i ^^^ mk 0 (l.filter (unseen l i)) := by
  intro i
  induction i with
  | zero =>
    intro _
    have : l.filter (unseen l 0) = l := List.filter_eq_self.2 (fun x _ => by simp [unseen])
    rw [this]; simp [moTo]
  | succ i ih =>
    intro hi
    rw [ih (by omega)]
    have hlt : i < l.length := by omega
    have hg : l.getD i 0 = l[i] := by simp [List.getD, hlt]
    have hun : ∀ x, unseen l (i + 1) x = (unseen l i x && x != l[i]) := by
      intro x
      unfold unseen
      rw [take_snoc' l i hlt]
      by_cases hx : x = l[i] <;> simp [hx, -List.take_append_getElem]
    have hfun : (unseen l (i + 1)) = fun x => unseen l i x && x != l[i] := funext hun
    by_cases hs : unseen l i l[i] = true
    · have hf : frst l i = true := by
        simp only [frst, decide_eq_true_eq, hg]
        intro j hj he
        simp only [unseen, Bool.not_eq_true'] at hs
        have : l[i] ∈ l.take i := by
          have hjl : j < l.length := by omega
          have e2 : l.getD j 0 = l[j] := by simp [List.getD, hjl]
          rw [e2] at he
          rw [← he]
          exact List.mem_take_iff_getElem.2 ⟨j, by omega, rfl⟩
        simp [this] at hs
      rw [mk_filter_part (unseen l i) l[i] hs l, hfun]
      rw [moTo_succ]
      simp only [hf, Bool.true_and, oddAt, hg]
      by_cases ho : (l.count l[i] % 2 == 1) = true
      · simp only [ho, if_true]
        rw [Nat.xor_assoc (moTo l i) (mx l[i]), Nat.xor_comm (mx l[i])]
      · simp only [ho, if_false, Bool.false_eq_true]; simp
    · have hf : frst l i = false := by
        simp only [frst, decide_eq_false_iff_not, hg]
        intro hall
        apply hs
        simp only [unseen, Bool.not_eq_true']
        cases hc : (l.take i).contains l[i] with
        | false => rfl
        | true =>
          have hm : l[i] ∈ l.take i := by simpa using hc
          obtain ⟨j, hj, he⟩ := List.mem_take_iff_getElem.1 hm
          have e2 : l.getD j 0 = l[j] := by simp [List.getD, show j < l.length by omega]
          exact absurd (e2.trans he) (hall j (by omega))
      have hsf : unseen l i l[i] = false := by simpa using hs
      have hfil : l.filter (unseen l (i + 1)) = l.filter (unseen l i) := by
        rw [hfun]
        apply List.filter_congr
        intro x _
        by_cases hx : x = l[i]
        · simp [hx, hsf]
        · simp [hx]
      rw [moTo_succ]
      simp [hf, hfil]
theorem moTo_mk (l : List Nat) : moTo l l.length = mk 0 l := by
  rw [moTo_eq l l.length (Nat.le_refl _)]
  have : l.filter (unseen l l.length) = [] := List.filter_eq_nil_iff.2 (fun x hx => by simp [unseen, hx])
  rw [this]; simp [mk]

/-- the inner loop's state after k steps: how often, and whether none ahead of i -/
def cnt (l : List Nat) (i k : Nat) : Nat := (l.take k).count (l.getD i 0)
def fst' (l : List Nat) (i k : Nat) : Bool := decide (∀ j, j < k → l.getD j 0 = l.getD i 0 → i ≤ j)
theorem cnt_le (l : List Nat) (i k : Nat) : cnt l i k ≤ k := Nat.le_trans List.count_le_length (List.length_take_le _ _)
theorem cnt_hit (l : List Nat) (i k : Nat) (hk : k < l.length) (he : l[k] = l.getD i 0) : cnt l i (k + 1) = cnt l i k + 1 := by
  unfold cnt; rw [take_snoc' l k hk, List.count_append, he]; simp
theorem cnt_miss (l : List Nat) (i k : Nat) (hk : k < l.length) (he : l[k] ≠ l.getD i 0) : cnt l i (k + 1) = cnt l i k := by
  unfold cnt; rw [take_snoc' l k hk, List.count_append, List.count_singleton]; simp only [beq_iff_eq, he, if_false, Nat.add_zero]
theorem fst_hit (l : List Nat) (i k : Nat) (hk : k < l.length) (he : l[k] = l.getD i 0) : fst' l i (k + 1) = (fst' l i k && decide (i ≤ k)) := by
  have e2 : l.getD k 0 = l[k] := by simp [List.getD, hk]
  rw [Bool.eq_iff_iff]
  simp only [fst', decide_eq_true_eq, Bool.and_eq_true]
  constructor
  · intro h
    exact ⟨fun j hj => h j (by omega), h k (by omega) (e2.trans he)⟩
  · rintro ⟨h, h2⟩ j hj h3
    rcases Nat.lt_succ_iff_lt_or_eq.1 hj with hl | rfl
    · exact h j hl h3
    · exact h2
theorem fst_miss (l : List Nat) (i k : Nat) (hk : k < l.length) (he : l[k] ≠ l.getD i 0) : fst' l i (k + 1) = fst' l i k := by
  have e2 : l.getD k 0 = l[k] := by simp [List.getD, hk]
  rw [Bool.eq_iff_iff]
  simp only [fst', decide_eq_true_eq]
  constructor
  · intro h j hj; exact h j (by omega)
  · intro h j hj h3
    rcases Nat.lt_succ_iff_lt_or_eq.1 hj with hl | rfl
    · exact h j hl h3
    · exact absurd (e2.symm.trans h3) he
theorem fst_end (l : List Nat) (i : Nat) (hi : i < l.length) : fst' l i l.length = frst l i := by
  rw [Bool.eq_iff_iff]
  simp only [fst', frst, decide_eq_true_eq]
  constructor
  · intro h j hj he; have := h j (by omega) he; omega
  · intro h j hj he
    rcases Nat.lt_or_ge j i with hl | hl
    · exact absurd he (h j hl)
    · exact hl

set_option maxHeartbeats 1000000 in
theorem markOf_any (a : Option Addr) (c B : Nat) (xs : List Nat) (w : World) (hm : xs.length ≤ 1000000) (hx : Els w B a 1 e64 xs) :
    Calls Try.prog 19 #[.slice a xs.length c] w fun e w' => e = .returned (.int .u64 (mk 0 xs : Nat)) ∧ w = w' := by
  have H := Lib.hid hx; clear hx
  rw [← moTo_mk]
  go_enter Try.func19, Try.ntmps19
  go_wp2_with fail
  go_loop [3, 12] (fun m i => ∃ k : Nat, k ≤ xs.length ∧ i = .int .i64 k ∧ m = .int .u64 (moTo xs k : Nat)) (fun _ i => xs.length - (intOf i).toNat)
  case atStart => exact ⟨0, by omega, rfl, rfl⟩
  case round =>
    obtain ⟨k, hk, rfl, rfl⟩ := hrel
    by_cases hlt : k < xs.length
    · obtain ⟨b, o, rfl, hb, hc⟩ := H.out.u64 k hlt
      have hgd : xs.getD k 0 = xs[k] := by simp [List.getD, hlt]
      generalize hxk : xs[k] = x at hc hgd
      have HX := Lib.hid hxk; clear hxk
      have HG := Lib.hid hgd; clear hgd
      go_wp2_with fail
      go_loop [6, 7, 8, 9, 19] (fun t f _ _ j => ∃ q : Nat, q ≤ xs.length ∧ j = .int .i64 q ∧ t = .int .i64 (cnt xs k q : Nat) ∧ f = .bool (fst' xs k q)) (fun _ _ _ _ j => xs.length - (intOf j).toNat)
      case atStart => exact ⟨0, by omega, rfl, by simp [cnt], by simp [fst']⟩
      case round =>
        obtain ⟨q, hq, rfl, rfl, rfl⟩ := hrel
        have hcl := cnt_le xs k q
        by_cases hlt2 : q < xs.length
        · obtain ⟨b2, o2, he2, hb2, hc2⟩ := H.out.u64 q hlt2
          have hpp : b = b2 ∧ o = o2 := by simpa using he2
          obtain ⟨rfl, rfl⟩ := hpp
          clear he2 hb2
          by_cases hxy : xs[q] = x
          · have h1 := cnt_hit xs k q hlt2 (by rw [HG.out]; exact hxy)
            have h2 := fst_hit xs k q hlt2 (by rw [HG.out]; exact hxy)
            have H1 := Lib.hid h1; have H2 := Lib.hid h2
            clear h1 h2
            rw [hxy] at hc2
            have HXY := Lib.hid hxy; clear hxy
            cases hf : fst' xs k q with
            | false =>
              have HF := Lib.hid hf; clear hf
              go_wp2_with fail
              go_round
              case rel => exact ⟨q + 1, by omega, by go_num, by rw [H1.out]; go_num, by rw [H2.out, HF.out]; rfl⟩
              case measure => simp [intOf]; omega
            | true =>
              have HF := Lib.hid hf; clear hf
              go_wp2_with fail
              go_round
              case rel => exact ⟨q + 1, by omega, by go_num, by rw [H1.out]; go_num, by rw [H2.out, HF.out]; simp⟩
              case measure => simp [intOf]; omega
          · have h1 := cnt_miss xs k q hlt2 (by rw [HG.out]; exact hxy)
            have h2 := fst_miss xs k q hlt2 (by rw [HG.out]; exact hxy)
            have hne : (((xs[q] : Nat) : Int) == (x : Int)) = false := by simp; omega
            have H1 := Lib.hid h1; have H2 := Lib.hid h2
            clear h1 h2
            have HXY := Lib.hid hxy; clear hxy
            go_wp2_with fail
            go_round
            case rel => exact ⟨q + 1, by omega, by go_num, by rw [H1.out], by rw [H2.out]⟩
            case measure => simp [intOf]; omega
        · have hq2 : q = xs.length := by omega
          subst hq2
          have hfe := fst_end xs k hlt
          have hce : cnt xs k xs.length = xs.count x := by unfold cnt; rw [List.take_length, HG.out]
          have hst : moTo xs (k + 1) = if frst xs k && (xs.count x % 2 == 1) then moTo xs k ^^^ mx x else moTo xs k := by rw [moTo_succ, oddAt, HG.out]
          have hxo := xorN (moTo xs k) (mx x) (moTo_lt _ _) (mx_lt _)
          rw [hfe, hce]
          rw [hce] at hcl
          clear hfe hce hlt2
          have HST := Lib.hid hst; clear hst
          have HXO := Lib.hid hxo; clear hxo
          generalize frst xs k = f at *
          generalize xs.count x = C at *
          cases f with
          | false =>
            go_wp2_with fail
            go_round
            case rel => exact ⟨k + 1, by omega, by go_num, by rw [HST.out]; rfl⟩
            case measure => simp [intOf]; omega
          | true =>
            by_cases ho : C % 2 = 1
            · have ho' : (((C : Nat) : Int) % 2 == 1) = true := by simp; omega
              have HS : moTo xs (k + 1) = moTo xs k ^^^ mx x := by rw [HST.out]; simp [ho]
              have HS := Lib.hid HS
              clear HST ho
              go_wp2_with (go_at_call 16; refine (mixed_any _ _).mono ?_; rintro e w' ⟨rfl, rfl⟩)
              go_round
              case rel => exact ⟨k + 1, by omega, by go_num, by rw [HS.out, HXO.out]⟩
              case measure => simp [intOf]; omega
            · have ho' : (((C : Nat) : Int) % 2 == 1) = false := by simp; omega
              have HS : moTo xs (k + 1) = moTo xs k := by rw [HST.out]; simp [ho]
              have HS := Lib.hid HS
              clear HST ho
              go_wp2_with fail
              go_round
              case rel => exact ⟨k + 1, by omega, by go_num, by rw [HS.out]⟩
              case measure => simp [intOf]; omega
    · have hke : k = xs.length := by omega
      go_wp2_with fail
      go_ret
      exact ⟨rfl, rfl⟩
end Go.Proofs.Ytemogefcbemjfaa
