/- Package tree: Grows; the reference's GrownMarks. -/
import Derived.Test.YtemogefcbemjfaaTreeO
namespace Go.Proofs.Ytemogefcbemjfaa
open Go.RowKit
def gr : Nat → List ByteArray → Nat → List Nat
  | 0, _, _ => []
  | p + 1, xs, r => if 2 ^ p ≤ r then rt pairN ((xs.take (2 ^ p)).map leafN) :: gr p (xs.drop (2 ^ p)) (r - 2 ^ p) else gr p xs r
def groR (xs : List ByteArray) (n : Int) : List Nat × Int := if 256 < xs.length then ([], 2) else if n < 0 ∨ (xs.length : Int) < n then ([], 1) else (gr 9 xs n.toNat, 0)
theorem gr_skip (xs : List ByteArray) (r q : Nat) (h : r < 2 ^ q) : ∀ d, gr (q + d) xs r = gr q xs r
  | 0 => rfl
  | d + 1 => by
    have hp : 2 ^ q ≤ 2 ^ (q + d) := Nat.pow_le_pow_right (by decide) (by omega)
    rw [show q + (d + 1) = (q + d) + 1 from rfl, gr, if_neg (by omega), gr_skip xs r q h d]
theorem gr_head (xs : List ByteArray) (r q : Nat) (hq : q ≤ 8) (h1 : 2 ^ q ≤ r) (h2 : r < 2 * 2 ^ q) : gr 9 xs r = rt pairN ((xs.take (2 ^ q)).map leafN) :: gr 9 (xs.drop (2 ^ q)) (r - 2 ^ q) := by
  have e := gr_skip xs r (q + 1) (by rw [Nat.pow_succ]; omega) (8 - q)
  rw [show q + 1 + (8 - q) = 9 from by omega] at e
  have e2 := gr_skip (xs.drop (2 ^ q)) (r - 2 ^ q) q (by omega) (9 - q)
  rw [show q + (9 - q) = 9 from by omega] at e2
  rw [e, e2, gr, if_pos h1]
theorem gr_lt : ∀ (p : Nat) (xs : List ByteArray) (r : Nat), (gr p xs r).length ≤ p
  | 0, _, _ => Nat.le_refl _
  | p + 1, xs, r => by
    rw [gr]
    split
    · have := gr_lt p (xs.drop (2 ^ p)) (r - 2 ^ p); rw [List.length_cons]; omega
    · have := gr_lt p xs r; omega
theorem i64_and_nat (a b : Nat) (ha : a < 9223372036854775808) (hb : b < 9223372036854775808) : bits .and .i64 (a : Int) (b : Int) = ((a &&& b : Nat) : Int) := by
  show IntKind.i64.wrap ((BitVec.ofInt 64 (a : Int) &&& BitVec.ofInt 64 (b : Int)).toNat : Nat) = _
  rw [BitVec.toNat_and, BitVec.ofInt_natCast, BitVec.ofInt_natCast, BitVec.toNat_ofNat, BitVec.toNat_ofNat, Nat.mod_eq_of_lt (show a < 2 ^ 64 by omega), Nat.mod_eq_of_lt (show b < 2 ^ 64 by omega), IntKind.wrap_i64]
  have : a &&& b ≤ a := Nat.and_le_left
  omega
theorem and_bit (n p : Nat) (hn : n ≤ 256) (hp : p ≤ 8) : bits .and .i64 (n : Int) ((2 ^ p : Nat) : Int) = ((n / 2 ^ p % 2 * 2 ^ p : Nat) : Int) := by
  have : 2 ^ p ≤ 2 ^ 8 := Nat.pow_le_pow_right (by decide) hp
  rw [i64_and_nat n (2 ^ p) (by omega) (by omega), nat_bit]
theorem bit_mod (n p : Nat) : (n / 2 ^ p % 2 = 1 → 2 ^ p ≤ n % 2 ^ (p + 1) ∧ n % 2 ^ (p + 1) - 2 ^ p = n % 2 ^ p) ∧ (n / 2 ^ p % 2 = 0 → n % 2 ^ (p + 1) = n % 2 ^ p) := by
  have e : n % 2 ^ (p + 1) = n % 2 ^ p + 2 ^ p * (n / 2 ^ p % 2) := by rw [Nat.pow_succ, Nat.mod_mul]
  rw [e]
  constructor
  · intro h; rw [h]; omega
  · intro h; rw [h]; omega
theorem own_drewn {w : World} {base e sz n : Nat} {v : Value} {xs : List Value} (h : w.ownsRow base e sz v n xs) (k : Nat) : (w.drewN k).ownsRow base e sz v n xs := h
structure GrSt (xs : List ByteArray) (n : Nat) (w wr : World) (B P bit : Nat) (ys : List ByteArray) (a : Option Addr) (c : Nat) (v : Value) (out : List Nat) : Prop where
  hP : P ≤ 9
  hbit : bit = 2 ^ P / 2
  els : Els wr B a 1 eStr ys
  all : ∀ s ∈ ys, s.size ≤ 140737488351232
  len : n % 2 ^ P ≤ ys.length
  eq : out ++ gr P ys (n % 2 ^ P) = gr 9 xs n
  ol : out.length + P ≤ 9
  own : wr.ownsRow w.heap.size 28 1 v out.length (out.flatMap e64)
  bel : Below w.heap.size w wr
set_option maxRecDepth 20000 in
set_option maxHeartbeats 2000000 in
theorem grows_any (a : Option Addr) (c B : Nat) (xs : List ByteArray) (n : Int) (w : World) (hn : -9223372036854775808 ≤ n ∧ n ≤ 9223372036854775807) (hl : xs.length ≤ c) (hc : c ≤ maxLen) (hE : Els w B a 1 eStr xs) (hall : ∀ s ∈ xs, s.size ≤ 140737488351232) (hB : B ≤ w.heap.size) :
    Calls Try.prog 74 #[.slice a xs.length c, .int .i64 n] w fun e w' => (∃ v, e = .returned (.tuple #[v, .int .i64 (groR xs n).2]) ∧ ∃ m, w'.ownsRow w.heap.size 28 1 v m ((groR xs n).1.flatMap e64)) ∧ Below w.heap.size w w' := by
  by_cases h256 : 256 < xs.length
  · rw [show groR xs n = ([], 2) from if_pos h256]
    unfold maxLen at hc
    go_enter Try.func74, Try.ntmps74
    go_wp2_with fail
    go_returns
    exact ⟨⟨_, rfl, 0, by simp, .inl ⟨rfl, rfl⟩⟩, Below.refl _ _⟩
  · by_cases hr : n < 0 ∨ (xs.length : Int) < n
    · rw [show groR xs n = ([], 1) from by rw [groR, if_neg h256, if_pos hr]]
      unfold maxLen at hc
      by_cases hr0 : n < 0
      · go_enter Try.func74, Try.ntmps74
        go_wp2_with fail
        go_returns
        exact ⟨⟨_, rfl, 0, by simp, .inl ⟨rfl, rfl⟩⟩, Below.refl _ _⟩
      · have hr1 : (xs.length : Int) < n := by omega
        go_enter Try.func74, Try.ntmps74
        go_wp2_with fail
        go_returns
        exact ⟨⟨_, rfl, 0, by simp, .inl ⟨rfl, rfl⟩⟩, Below.refl _ _⟩
    · rw [show groR xs n = (gr 9 xs n.toNat, 0) from by rw [groR, if_neg h256, if_neg hr]]
      obtain ⟨N, rfl⟩ : ∃ N : Nat, n = N := ⟨n.toNat, by omega⟩
      rw [Int.toNat_natCast]
      have hnl : N ≤ xs.length := by omega
      have ST : PLift (GrSt xs N w w B 9 256 xs a c (.slice none 0 0) []) := PLift.up ⟨by omega, rfl, hE, hall, by rw [Nat.mod_eq_of_lt (by omega)]; omega, by rw [Nat.mod_eq_of_lt (by omega)]; rfl, by simp, ⟨by simp, .inl ⟨rfl, rfl⟩⟩, Below.refl _ _⟩
      unfold maxLen at hc
      have d1 : decide ((256 : Int) < (xs.length : Int)) = false := by simp; omega
      have d2 : decide ((N : Int) < 0) = false := by simp
      have d3 : decide ((xs.length : Int) < (N : Int)) = false := by simp; omega
      have d4 : decide (256 < xs.length) = false := by simp; omega
      have d5 : decide (xs.length < N) = false := by simp; omega
      clear hn hE hall hr
      go_enter Try.func74, Try.ntmps74
      go_wp2_with fail
      go_loopw [0, 6, 7] (fun lv v bv wr => ∃ (P bit : Nat) (ys : List ByteArray) (a' : Option Addr) (c' : Nat) (out : List Nat), lv = .slice a' ys.length c' ∧ bv = .int .i64 bit ∧ ys.length ≤ 256 ∧ ys.length ≤ c' ∧ c' ≤ 9223372036854775807 ∧ bit ≤ 256 ∧ Hid (GrSt xs N w wr B P bit ys a' c' v out)) (fun _ _ bv _ => (intOf bv).toNat)
      case atStart => exact ⟨9, 256, xs, a, c, [], rfl, rfl, by omega, by omega, by omega, by omega, ST.down⟩
      case round =>
        clear ST
        obtain ⟨P, bit, ys, a', c', out, rfl, rfl, hy1, hy2, hc', hb256, hI⟩ := hrel
        have hBw := hI.out.bel.size
        have hol := hI.out.ol
        by_cases hbit : 0 < bit
        · obtain ⟨p, rfl⟩ : ∃ p, P = p + 1 := by
            cases P with
            | zero => have := hI.out.hbit; simp at this; omega
            | succ p => exact ⟨p, rfl⟩
          have hb2 : bit = 2 ^ p := by have := hI.out.hbit; rw [Nat.pow_succ] at this; omega
          have hab := and_bit N p (by omega) (by have := hI.out.hP; omega)
          obtain ⟨m1, m2⟩ := bit_mod N p
          rw [← hb2] at hab m1 m2
          rcases Nat.mod_two_eq_zero_or_one (N / bit) with h0 | h1
          · rw [h0, Nat.zero_mul] at hab
            have hm := m2 h0
            have ST2 : PLift (GrSt xs N w wr B p (bit / 2) ys a' c' u6 out) := PLift.up (by
              have h := hI.out
              have hlt : N % 2 ^ p < 2 ^ p := Nat.mod_lt _ (Nat.pow_pos (by decide))
              refine ⟨by have := h.hP; omega, by rw [hb2], h.els, h.all, ?_, ?_, by omega, h.own, h.bel⟩
              · have := h.len; rw [hm] at this; rw [← hb2]; exact this
              · have := h.eq; rw [hm, gr, ← hb2, if_neg (by rw [hb2]; omega)] at this; rw [← hb2]; exact this)
            have hne : (((0 : Nat) : Int) != 0) = false := rfl
            clear hI m1 m2 hm h0 hb2
            go_wp2_with fail
            go_roundw
            case rel => exact ⟨p, bit / 2, ys, a', c', out, rfl, by simp, by omega, by omega, by omega, by omega, ST2.down⟩
            case measure => simp [intOf]; omega
          · rw [h1, Nat.one_mul] at hab
            obtain ⟨hle, hm⟩ := m1 h1
            have hyb : bit ≤ ys.length := by have := hI.out.len; omega
            have hne : ((bit : Int) != 0) = true := by rw [bne_iff_ne]; omega
            obtain ⟨b, o, rfl, hbB, hcx⟩ := hI.out.els.get 0 (by omega)
            clear hcx
            have l1 : (ys.take bit).length = bit := by simp; omega
            have R : PLift (Calls Try.prog 101 #[.slice (some ⟨b, o, none⟩) bit c'] wr _) := PLift.up (by
              have := root_any 256 (some ⟨b, o, none⟩) c' B (ys.take bit) wr (by omega) (by omega) (by omega) (by unfold maxLen; omega) (hI.out.els.take bit) (fun s hs => hI.out.all s (List.mem_of_mem_take hs))
              rw [l1] at this; exact this)
            have hz := rtN_lt (ys.take bit)
            have HEQ : PLift (out ++ [rt pairN ((ys.take bit).map leafN)] ++ gr p (ys.drop bit) (N % 2 ^ p) = gr 9 xs N) := PLift.up (by
              have h := hI.out.eq
              rw [gr, ← hb2, if_pos hle, hm] at h
              rw [← h, List.append_assoc]
              rw [hb2]; rfl)
            generalize rt pairN ((ys.take bit).map leafN) = z at *
            have l2 : (ys.drop bit).length = ys.length - bit := by simp
            have HI := PLift.up hI.out
            have HL2 := PLift.up l2
            have HB2 := PLift.up hb2
            have HM := PLift.up hm
            have hp9 : p ≤ 8 := by have := hI.out.hP; omega
            clear hI m1 m2 hm h1 l1 l2 hb2 hle
            have k0 : (0 : Int) ≤ (bit : Int) := by omega
            have k1 : (bit : Int) ≤ (ys.length : Int) := by omega
            have k2 : (bit : Int) ≤ (c' : Int) := by omega
            have k3 : (ys.length : Int) ≤ (c' : Int) := by omega
            by_cases hcb : c' = bit
            · subst hcb
              go_wp2_with fail
              refine R.down.mono ?_
              rintro e w' ⟨rfl, nq, rfl⟩
              obtain ⟨wq, hwq⟩ : ∃ wq : World, wq = wr.drewN nq := ⟨_, rfl⟩
              rw [← hwq]
              have HOq : PLift (wq.ownsRow w.heap.size 28 1 u6 out.length (out.flatMap e64)) := PLift.up (by rw [hwq]; exact HI.down.own)
              have HBq : PLift (Below w.heap.size w wq) := PLift.up (by rw [hwq]; exact HI.down.bel.drewn nq)
              have HEq : PLift (Els wq B (some ⟨b, o, none⟩) 1 eStr ys) := PLift.up (by rw [hwq]; exact HI.down.els.drewn nq)
              have hsq := HBq.down.size
              clear hwq
              go_wp2_with (at_builtin; refine wpApp _ rfl _ _ _ rfl w.heap.size _ _ _ elT_u64t _ out.length _ rfl (HOq.down.alloc _) (some ⟨wq.heap.size, 0, none⟩) 1 1 [.int .u64 (z : Nat)] rfl ?_ ?_ ?_ ?_ ?_ ?_ ?_ ?_)
              · rfl
              · simp
              · intro ad had j u hu
                obtain rfl := Option.some.inj had
                match j, hu with
                | 0, hu => simp at hu; subst hu; simp [Addr.add_lit, go_sem]
                | j + 1, hu => simp at hu
              · simp [Value.oneCell']
              · simp only [maxLen]; omega
              · omega
              · simp; omega
              intro v' w2 hown hg _
              have V2 : PLift (Below w.heap.size wq w2) := PLift.up (((Below.refl _ _).alloc hsq _).grown hg (by simp; omega) (fun q hq => (HOq.down.lt q hq).1))
              have HBB : PLift (Below w.heap.size w w2) := PLift.up (HBq.down.trans V2.down)
              have HO2 := PLift.up hown
              clear hown hg
              go_wp2_with fail
              go_roundw
              case rel =>
                refine ⟨p, c' / 2, ys.drop c', some ⟨b, o, none⟩, 0, out ++ [z], ?_, by simp, by rw [HL2.down]; omega, by rw [HL2.down]; omega, by omega, by omega, ?_, by rw [HB2.down], ?_, ?_, ?_, HEQ.down, by simp; omega, ?_, HBB.down⟩
                · rw [HL2.down, show ys.length - c' = 0 from by omega]
                · omega
                · rw [List.eq_nil_of_length_eq_zero (show (ys.drop c').length = 0 from by rw [HL2.down]; omega)]; exact .inl rfl
                · intro s hs; exact HI.down.all s (List.mem_of_mem_drop hs)
                · rw [HL2.down, ← HB2.down]; have := HI.down.len; have := HM.down; omega
                · have := HO2.down; simpa [e64] using this
              case measure => simp [intOf]; omega
            · go_wp2_with fail
              refine R.down.mono ?_
              rintro e w' ⟨rfl, nq, rfl⟩
              obtain ⟨wq, hwq⟩ : ∃ wq : World, wq = wr.drewN nq := ⟨_, rfl⟩
              rw [← hwq]
              have HOq : PLift (wq.ownsRow w.heap.size 28 1 u6 out.length (out.flatMap e64)) := PLift.up (by rw [hwq]; exact HI.down.own)
              have HBq : PLift (Below w.heap.size w wq) := PLift.up (by rw [hwq]; exact HI.down.bel.drewn nq)
              have HEq : PLift (Els wq B (some ⟨b, o, none⟩) 1 eStr ys) := PLift.up (by rw [hwq]; exact HI.down.els.drewn nq)
              have hsq := HBq.down.size
              clear hwq
              go_wp2_with (at_builtin; refine wpApp _ rfl _ _ _ rfl w.heap.size _ _ _ elT_u64t _ out.length _ rfl (HOq.down.alloc _) (some ⟨wq.heap.size, 0, none⟩) 1 1 [.int .u64 (z : Nat)] rfl ?_ ?_ ?_ ?_ ?_ ?_ ?_ ?_)
              · rfl
              · simp
              · intro ad had j u hu
                obtain rfl := Option.some.inj had
                match j, hu with
                | 0, hu => simp at hu; subst hu; simp [Addr.add_lit, go_sem]
                | j + 1, hu => simp at hu
              · simp [Value.oneCell']
              · simp only [maxLen]; omega
              · omega
              · simp; omega
              intro v' w2 hown hg _
              have V2 : PLift (Below w.heap.size wq w2) := PLift.up (((Below.refl _ _).alloc hsq _).grown hg (by simp; omega) (fun q hq => (HOq.down.lt q hq).1))
              have HBB : PLift (Below w.heap.size w w2) := PLift.up (HBq.down.trans V2.down)
              have HO2 := PLift.up hown
              clear hown hg
              go_wp2_with fail
              go_roundw
              case rel =>
                refine ⟨p, bit / 2, ys.drop bit, some ⟨b, o + bit, none⟩, c' - bit, out ++ [z], ?_, by simp, by rw [HL2.down]; omega, by rw [HL2.down]; omega, by omega, by omega, ?_, by rw [HB2.down], ?_, ?_, ?_, HEQ.down, by simp; omega, ?_, HBB.down⟩
                · rw [HL2.down]
                · omega
                · have := (HEq.down.drop bit).below V2.down hB
                  simpa using this
                · intro s hs; exact HI.down.all s (List.mem_of_mem_drop hs)
                · rw [HL2.down, ← HB2.down]; have := HI.down.len; have := HM.down; omega
                · have := HO2.down; simpa [e64] using this
              case measure => simp [intOf]; omega
        · obtain rfl : bit = 0 := by omega
          have h := hI.out
          have hP0 : P = 0 := by
            cases P with
            | zero => rfl
            | succ p => have := h.hbit; rw [Nat.pow_succ] at this; have := Nat.pow_pos (n := p) (show 0 < 2 by decide); omega
          subst hP0
          have he := h.eq
          rw [gr, List.append_nil] at he
          have HO : PLift (wr.ownsRow w.heap.size 28 1 u6 out.length ((gr 9 xs N).flatMap e64)) := PLift.up (by rw [← he]; exact h.own)
          have HBB := PLift.up h.bel
          clear hI h he
          go_wp2_with fail
          go_returns
          exact ⟨⟨_, rfl, _, HO.down⟩, HBB.down⟩
end Go.Proofs.Ytemogefcbemjfaa
