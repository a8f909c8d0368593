/-
  THE LAW LuckSays: whatever is handed in, Next, Back, Skip, Pick and Deal answer what the reference says. No condition.
-/
import Derived.Test.YtemogefcbemjfaaRows
import Derived.Test.YtemogefcbemjfaaLuckD
import Derived.Test.YtemogefcbemjfaaEqI
import Derived.Test.YtemogefcbemjfaaOpen
namespace Go.Proofs.Ytemogefcbemjfaa.luckSays
open Go.ChangeShapes Go.WideShapes Go.ChangeAt Go.RowKit
set_option linter.unusedVariables false

/-- Between. -/
def btw (n lo hi : Int) : Bool := decide (lo ≤ n) && decide (n ≤ hi)
set_option maxHeartbeats 400000 in
theorem btw_any (n lo hi : Int) (w : World) :
    Calls Try.prog 29 #[.int .i64 n, .int .i64 lo, .int .i64 hi] w fun e w' => e = .returned (.bool (btw n lo hi)) ∧ w = w' := by
  go_enter Try.func29, Try.ntmps29
  go_wp2
  all_goals
    go_ret
    refine ⟨congrArg Ending.returned (congrArg Value.bool ?_), rfl⟩
    unfold btw
    simp [*] <;> omega
set_option maxHeartbeats 400000 in
theorem pick_bad (s : Nat) (n : Int) (w : World) (h : n < 1 ∨ 65536 < n) :
    Calls Try.prog 39 #[.int .u32 s, .int .i64 n] w fun e w' => e = .returned (.tuple #[.int .i64 0, .int .u32 s, .int .i64 1]) ∧ w = w' := by
  rcases h with h | h
  all_goals
    go_enter Try.func39, Try.ntmps39
    go_wp2_with fail
    go_ret3
    exact ⟨rfl, rfl⟩
set_option maxHeartbeats 400000 in
theorem deal_bad (s : Nat) (n : Int) (w : World) (h : n < 0 ∨ 52 < n) :
    Calls Try.prog 40 #[.int .u32 s, .int .i64 n] w fun e w' => e = .returned (.tuple #[.slice none 0 0, .int .u32 s, .int .i64 1]) ∧ w = w' := by
  rcases h with h | h
  all_goals
    go_enter Try.func40, Try.ntmps40
    go_wp2_with fail
    go_ret3
    exact ⟨rfl, rfl⟩
theorem dk_len (n s : Nat) : (dl (n - 1) (deck n) s).1.length = n := by rw [(dl_facts _ _ _).1]; simp [deck]
set_option maxHeartbeats 1000000 in
theorem core (s : Nat) (n : Int) (w : World) (hs : s < 4294967296) (b1 b2 b3 : Bool) (sX pB dC : Nat) (sY pJ pF dG : Int)
    (hB1 : btw n 0 4294967296 = b1) (hB2 : btw n 1 65536 = b2) (hB3 : btw n 0 52 = b3)
    (hSK : ∀ w, Calls Try.prog 38 #[.int .u32 s, .int .i64 n] w fun e w' => e = .returned (.tuple #[.int .u32 sX, .int .i64 sY]) ∧ w = w')
    (hPK : ∀ w, Calls Try.prog 39 #[.int .u32 s, .int .i64 n] w fun e w' => e = .returned (.tuple #[.int .i64 pJ, .int .u32 pB, .int .i64 pF]) ∧ w = w')
    (hLS : b1 = true → ∀ w, Calls Try.prog 44 #[.int .u32 s, .int .i64 n] w fun e w' => e = .returned (.int .u32 sX) ∧ w = w')
    (hLU : b2 = true → ∀ w, Calls Try.prog 45 #[.int .u32 s, .int .i64 n] w fun e w' => e = .returned (.tuple #[.int .i64 pJ, .int .u32 pB]) ∧ w = w')
    (h1 : (b1 = true → sY = 0) ∧ (b1 = false → sX = 0 ∧ sY = 1)) (h2 : (b2 = true → pF = 0) ∧ (b2 = false → pJ = 0 ∧ pB = s ∧ pF = 1))
    (xs : List Int) (hxl : xs.length ≤ 52)
    (hDT : ∀ w, Calls Try.prog 40 #[.int .u32 s, .int .i64 n] w fun e w' => (∃ a c, e = .returned (.tuple #[.slice a xs.length c, .int .u32 dC, .int .i64 dG]) ∧ Els w' w'.heap.size a 1 ei64 xs) ∧ Below w.heap.size w w')
    (hDD : b3 = true → ∀ w, Calls Try.prog 46 #[.int .u32 s, .int .i64 n] w fun e w' => (∃ a c, e = .returned (.tuple #[.slice a xs.length c, .int .u32 dC]) ∧ Els w' w'.heap.size a 1 ei64 xs) ∧ Below w.heap.size w w')
    (h3 : (b3 = true → dG = 0) ∧ (b3 = false → xs = [] ∧ dC = s ∧ dG = 1)) :
    Calls Try.prog 8 #[.int .u32 s, .int .i64 n] w fun e w' => e = .returned (.bool true) ∧ Below w.heap.size w w' := by
  have hNX := fun w => next_any s w hs
  have hLN := fun w => luckNext_any s w hs
  have hBK := fun w => back_any s w hs
  have hLB := fun w => luckNext_any (bk s) w (bk_lt s)
  rw [nx_bk s hs] at hLB
  have HNX := PLift.up hNX; have HLN := PLift.up hLN; have HBK := PLift.up hBK; have HLB := PLift.up hLB
  have HSK := PLift.up hSK; have HPK := PLift.up hPK; have HLS := PLift.up hLS; have HLU := PLift.up hLU; have HDT := PLift.up hDT; have HDD := PLift.up hDD
  have HB1 := PLift.up hB1; have HB2 := PLift.up hB2; have HB3 := PLift.up hB3
  have H1 := PLift.up h1; have H2 := PLift.up h2; have H3 := PLift.up h3; have HXL := PLift.up hxl
  clear hNX hLN hBK hLB hSK hPK hLS hLU hDT hDD hB1 hB2 hB3 h1 h2 h3 hs hxl
  go_enter Try.func8, Try.ntmps8
  go_wp2_with (first | (go_at_call 38; refine (HSK.down _).mono ?_; rintro e w' ⟨rfl, rfl⟩) | (go_at_call 39; refine (HPK.down _).mono ?_; rintro e w' ⟨rfl, rfl⟩) | (go_at_call 41; refine (HNX.down _).mono ?_; rintro e w' ⟨rfl, rfl⟩) | (go_at_call 43; refine (HBK.down _).mono ?_; rintro e w' ⟨rfl, rfl⟩) | (go_at_call 44; refine (HLS.down rfl _).mono ?_; rintro e w' ⟨rfl, rfl⟩) | (go_at_call 45; refine (HLU.down rfl _).mono ?_; rintro e w' ⟨rfl, rfl⟩))
  refine (HDT.down _).mono ?_
  rintro e w1 ⟨⟨a1, c1, rfl, hE1⟩, hb1⟩
  have HE1 := PLift.up hE1
  have HW1 := PLift.up hb1
  clear hE1 hb1
  go_wp2_with (first | (go_at_call 38; refine (HSK.down _).mono ?_; rintro e w' ⟨rfl, rfl⟩) | (go_at_call 39; refine (HPK.down _).mono ?_; rintro e w' ⟨rfl, rfl⟩) | (go_at_call 41; refine (HNX.down _).mono ?_; rintro e w' ⟨rfl, rfl⟩) | (go_at_call 43; refine (HBK.down _).mono ?_; rintro e w' ⟨rfl, rfl⟩) | (go_at_call 44; refine (HLS.down rfl _).mono ?_; rintro e w' ⟨rfl, rfl⟩) | (go_at_call 45; refine (HLU.down rfl _).mono ?_; rintro e w' ⟨rfl, rfl⟩))
  refine (HLN.down _).mono ?_
  rintro e w2 ⟨rfl, rfl⟩
  go_wp2_with (first | (go_at_call 38; refine (HSK.down _).mono ?_; rintro e w' ⟨rfl, rfl⟩) | (go_at_call 39; refine (HPK.down _).mono ?_; rintro e w' ⟨rfl, rfl⟩) | (go_at_call 41; refine (HNX.down _).mono ?_; rintro e w' ⟨rfl, rfl⟩) | (go_at_call 43; refine (HBK.down _).mono ?_; rintro e w' ⟨rfl, rfl⟩) | (go_at_call 44; refine (HLS.down rfl _).mono ?_; rintro e w' ⟨rfl, rfl⟩) | (go_at_call 45; refine (HLU.down rfl _).mono ?_; rintro e w' ⟨rfl, rfl⟩))
  refine (HLB.down _).mono ?_
  rintro e w2 ⟨rfl, rfl⟩
  go_wp2_with (first | (go_at_call 38; refine (HSK.down _).mono ?_; rintro e w' ⟨rfl, rfl⟩) | (go_at_call 39; refine (HPK.down _).mono ?_; rintro e w' ⟨rfl, rfl⟩) | (go_at_call 41; refine (HNX.down _).mono ?_; rintro e w' ⟨rfl, rfl⟩) | (go_at_call 43; refine (HBK.down _).mono ?_; rintro e w' ⟨rfl, rfl⟩) | (go_at_call 44; refine (HLS.down rfl _).mono ?_; rintro e w' ⟨rfl, rfl⟩) | (go_at_call 45; refine (HLU.down rfl _).mono ?_; rintro e w' ⟨rfl, rfl⟩))
  refine (btw_any n 0 4294967296 _).mono ?_
  rintro e w2 ⟨rfl, rfl⟩
  rw [HB1.down]
  cases b1
  all_goals
    first | (obtain ⟨rfl, rfl⟩ := H1.down.2 rfl) | (obtain rfl := H1.down.1 rfl)
    go_wp2_with (first | (go_at_call 38; refine (HSK.down _).mono ?_; rintro e w' ⟨rfl, rfl⟩) | (go_at_call 39; refine (HPK.down _).mono ?_; rintro e w' ⟨rfl, rfl⟩) | (go_at_call 41; refine (HNX.down _).mono ?_; rintro e w' ⟨rfl, rfl⟩) | (go_at_call 43; refine (HBK.down _).mono ?_; rintro e w' ⟨rfl, rfl⟩) | (go_at_call 44; refine (HLS.down rfl _).mono ?_; rintro e w' ⟨rfl, rfl⟩) | (go_at_call 45; refine (HLU.down rfl _).mono ?_; rintro e w' ⟨rfl, rfl⟩))
    refine (btw_any n 1 65536 _).mono ?_
    rintro e w2 ⟨rfl, rfl⟩
    rw [HB2.down]
    cases b2
    all_goals
      first | (obtain ⟨rfl, rfl, rfl⟩ := H2.down.2 rfl) | (obtain rfl := H2.down.1 rfl)
      go_wp2_with (first | (go_at_call 38; refine (HSK.down _).mono ?_; rintro e w' ⟨rfl, rfl⟩) | (go_at_call 39; refine (HPK.down _).mono ?_; rintro e w' ⟨rfl, rfl⟩) | (go_at_call 41; refine (HNX.down _).mono ?_; rintro e w' ⟨rfl, rfl⟩) | (go_at_call 43; refine (HBK.down _).mono ?_; rintro e w' ⟨rfl, rfl⟩) | (go_at_call 44; refine (HLS.down rfl _).mono ?_; rintro e w' ⟨rfl, rfl⟩) | (go_at_call 45; refine (HLU.down rfl _).mono ?_; rintro e w' ⟨rfl, rfl⟩))
      refine (btw_any n 0 52 _).mono ?_
      rintro e w2 ⟨rfl, rfl⟩
      rw [HB3.down]
      cases b3
      · obtain ⟨rfl, rfl, rfl⟩ := H3.down.2 rfl
        go_wp2_with fail
        go_ret
        exact ⟨rfl, HW1.down⟩
      · obtain rfl := H3.down.1 rfl
        go_wp2_with fail
        refine (HDD.down rfl _).mono ?_
        rintro e w2 ⟨⟨a2, c2, rfl, hE2⟩, hb2⟩
        have HE2 := PLift.up hE2
        have HW2 := PLift.up (HW1.down.trans (hb2.mono HW1.down.size))
        have HE3 := PLift.up ((HE1.down.below hb2 (Nat.le_refl _)).mono hb2.size)
        clear hE2 hb2
        go_wp2_with fail
        refine (equal_i64 a1 a2 c1 c2 w2.heap.size xs xs w2 HE3.down HE2.down (Nat.le_refl _) (by have := HXL.down; omega) (by have := HXL.down; omega)).mono ?_
        rintro e w3 ⟨rfl, hb3⟩
        have HW3 := PLift.up (HW2.down.trans (hb3.mono HW2.down.size))
        clear hb3
        rw [decide_eq_true rfl]
        go_wp2_with fail
        go_ret
        exact ⟨rfl, HW3.down⟩
theorem of_own {w : World} {base n : Nat} {v : Value} {xs : List Int} (h : w.ownsRow base 3 1 v n (xs.flatMap ei64)) : ∃ a c, v = .slice a xs.length c ∧ Els w w.heap.size a 1 ei64 xs := by
  obtain ⟨a, c, h1, _, h2, _⟩ := Els.ofOwn h (one_i64 xs) (by decide)
  exact ⟨a, c, h1, h2⟩
theorem btw_eq {n lo hi : Int} {b : Bool} (h : (b = true ↔ lo ≤ n ∧ n ≤ hi)) : btw n lo hi = b := by
  rw [Bool.eq_iff_iff, h]; simp [btw]
theorem walk (s : Nat) (n : Int) (w : World) (hs : s < 4294967296) (hn : -9223372036854775808 ≤ n ∧ n ≤ 9223372036854775807) :
    Calls Try.prog 8 #[.int .u32 s, .int .i64 n] w fun e w' => e = .returned (.bool true) ∧ Below w.heap.size w w' := by
  have deal1 : ∀ m : Nat, n = m → m ≤ 52 → ∀ w, Calls Try.prog 40 #[.int .u32 s, .int .i64 n] w fun e w' => (∃ a c, e = .returned (.tuple #[.slice a (dl (m - 1) (deck m) s).1.length c, .int .u32 (dl (m - 1) (deck m) s).2, .int .i64 0]) ∧ Els w' w'.heap.size a 1 ei64 (dl (m - 1) (deck m) s).1) ∧ Below w.heap.size w w' := by
    intro m hm hm2 w
    subst hm
    refine (deal_any s m w hs hm2).mono ?_
    rintro e w' ⟨⟨v, rfl, hown⟩, hb⟩
    obtain ⟨a, c, rfl, hE⟩ := of_own hown
    exact ⟨⟨a, c, rfl, hE⟩, hb⟩
  have deal2 : ∀ m : Nat, n = m → m ≤ 52 → ∀ w, Calls Try.prog 46 #[.int .u32 s, .int .i64 n] w fun e w' => (∃ a c, e = .returned (.tuple #[.slice a (dl (m - 1) (deck m) s).1.length c, .int .u32 (dl (m - 1) (deck m) s).2]) ∧ Els w' w'.heap.size a 1 ei64 (dl (m - 1) (deck m) s).1) ∧ Below w.heap.size w w' := by
    intro m hm hm2 w
    subst hm
    refine (dealt_any s m w hs hm2).mono ?_
    rintro e w' ⟨⟨v, rfl, hown⟩, hb⟩
    obtain ⟨a, c, rfl, hE⟩ := of_own hown
    exact ⟨⟨a, c, rfl, hE⟩, hb⟩
  have deal0 : (n < 0 ∨ 52 < n) → ∀ w, Calls Try.prog 40 #[.int .u32 s, .int .i64 n] w fun e w' => (∃ a c, e = .returned (.tuple #[.slice a ([] : List Int).length c, .int .u32 s, .int .i64 1]) ∧ Els w' w'.heap.size a 1 ei64 []) ∧ Below w.heap.size w w' := by
    intro hm w
    refine (deal_bad s n w hm).mono ?_
    rintro e w' ⟨rfl, rfl⟩
    exact ⟨⟨none, 0, rfl, .inl rfl⟩, Below.refl _ _⟩
  by_cases c1 : 0 ≤ n ∧ n ≤ 4294967296
  · obtain ⟨m, rfl⟩ := Int.eq_ofNat_of_zero_le c1.1
    have hsk := fun w => skip_any s m w hs (by omega)
    have hls := fun w => lucks_any s m w hs (by omega)
    by_cases c2 : 1 ≤ m ∧ m ≤ 65536
    · have hpk := fun w => pick_any s m w hs c2.1 c2.2
      have hlu := fun w => luck_any s m w hs c2.1 c2.2
      by_cases c3 : m ≤ 52
      · exact core s m w hs true true true _ _ _ _ _ _ _ (btw_eq (by simp; omega)) (btw_eq (by simp; omega)) (btw_eq (by simp; omega)) hsk hpk (fun _ => hls) (fun _ => hlu) (by simp) (by simp) _ (by rw [dk_len]; exact c3) (deal1 m rfl c3) (fun _ => deal2 m rfl c3) (by simp)
      · exact core s m w hs true true false _ _ _ _ _ _ _ (btw_eq (by simp; omega)) (btw_eq (by simp; omega)) (btw_eq (by simp; omega)) hsk hpk (fun _ => hls) (fun _ => hlu) (by simp) (by simp) [] (by simp) (deal0 (by omega)) (fun h => by cases h) (by simp)
    · have hpk := fun w => pick_bad s m w (by omega)
      by_cases c3 : m ≤ 52
      · exact core s m w hs true false true _ _ _ _ _ _ _ (btw_eq (by simp; omega)) (btw_eq (by simp; omega)) (btw_eq (by simp; omega)) hsk hpk (fun _ => hls) (fun h => by cases h) (by simp) (by simp) _ (by rw [dk_len]; exact c3) (deal1 m rfl c3) (fun _ => deal2 m rfl c3) (by simp)
      · exact core s m w hs true false false _ _ _ _ _ _ _ (btw_eq (by simp; omega)) (btw_eq (by simp; omega)) (btw_eq (by simp; omega)) hsk hpk (fun _ => hls) (fun h => by cases h) (by simp) (by simp) [] (by simp) (deal0 (by omega)) (fun h => by cases h) (by simp)
  · have hsk : ∀ w, Calls Try.prog 38 #[.int .u32 s, .int .i64 n] w fun e w' => e = .returned (.tuple #[.int .u32 (0 : Nat), .int .i64 1]) ∧ w = w' := fun w => skip_bad s n w (by omega)
    have hpk := fun w => pick_bad s n w (by omega)
    exact core s n w hs false false false _ _ _ _ _ _ _ (btw_eq (by simp; omega)) (btw_eq (by simp; omega)) (btw_eq (by simp; omega)) hsk hpk (fun h => by cases h) (fun h => by cases h) (by simp) (by simp) [] (by simp) (deal0 (by omega)) (fun h => by cases h) (by simp)
theorem own : ownKnob Try.prog.godebug = none := by kernel_rfl
theorem laidOut : laidOutB Try.prog = true := by kernel_rfl
set_option maxRecDepth 100000 in
theorem lifted (os : Os) (started : os.Started) (H : Type) (enc : TypeId × Value → H) :
    ReturnsInHanded {} Try.checked os 8 .any (Rows.luckSaysSpec.pre6 enc Try.prog Try.f8 Rows.luckSaysRow.domain false) (Rows.luckSaysSpec.post enc Try.prog Try.f8 false true false false) := by
  refine returnsInHanded_of_change_sized (C := Try.checked) own started (by kernel_rfl) Try.func8
    (ChangeSpec.witness6 (enc := enc) (C := Try.checked) false ⟨#[], #[.int .u32 0, .int .i64 0], []⟩ 8 (by kernel_rfl) (by kernel_rfl) (by kernel_rfl) (by kernel_rfl)) ?_
  intro W base args ds gs before hval0 hW hcnd hsz0 _
  have hval : ∀ (j : Nat) t v, Try.f8.params[j]? = some t → args[j]? = some v → Value.okWide Try.prog W .any base t v := hval0
  have hW' := hW
  obtain ⟨p, q, hA0, hV, rfl, hfz, hnd⟩ := hW
  have hA : DataW.TrodAll enc Try.prog W 0 (fun _ => true) true Try.f8.params.toList args.toList ds p := hA0
  rw [Try.params8] at hA hval hsz0
  obtain ⟨v0, vs0, d0, ds0, p0, q0, hargs, rfl, rfl, h0, r0⟩ := trodAll_cons hA
  obtain ⟨v1, vs1, d1, ds1, p1, q1, rfl, rfl, rfl, h1, r1⟩ := trodAll_cons r0
  obtain ⟨rfl, rfl, rfl⟩ := trodAll_nil r1
  obtain rfl : args = #[v0, v1] := by cases args; simp_all
  obtain ⟨rfl, rfl⟩ := trodVars_none hV
  have lt0 : ∀ x ∈ p0, x.block < W.heap.size := by obtain ⟨m, hm⟩ := h0; exact DataW.trod_lt m _ _ _ hm
  obtain ⟨x0, c0, ok0⟩ := Opens.arg (Opens.u32 Try.underlying36) h0 hsz0 0 rfl rfl
  obtain rfl := arg_int Try.underlying36 (hval 0 36 v0 rfl rfl) c0
  have lt1 : ∀ x ∈ p1, x.block < W.heap.size := by obtain ⟨m, hm⟩ := h1; exact DataW.trod_lt m _ _ _ hm
  obtain ⟨x1, c1, ok1⟩ := Opens.arg (Opens.i64 Try.underlying3) h1 hsz0 1 rfl rfl
  obtain rfl := arg_int Try.underlying3 (hval 1 3 v1 rfl rfl) c1
  clear hA0 hval0
  refine (walk x0 x1 W ok0 ok1).mono fun e W' ⟨he, bel⟩ => ?_
  subst he
  exact ⟨_, rfl, _, _, _, [], _, [], hW', trodAll_mk1 (shut_bool Try.underlying4 _), (trodAll_cons_mk (Below.trod laidOut (by kernel_rfl) (of_decide_eq_true (by kernel_rfl)) h0 bel lt0) (trodAll_cons_mk (Below.trod laidOut (by kernel_rfl) (of_decide_eq_true (by kernel_rfl)) h1 bel lt1) trodAll_mk0)), rfl, bel.frame _, fun h => by cases h⟩
theorem over : Rows.luckSaysRow.holds Try.pinned (OpenSpec.ofChange Rows.luckSaysSpec) :=
  OpenClaim.holds_of_wide 8 Try.f8 rfl rfl rfl rfl rfl rfl rfl ⟨rfl, rfl, rfl, rfl, rfl⟩ rfl rfl rfl rfl rfl (by kernel_rfl) Try.func8 (by kernel_rfl)
    (of_decide_eq_true (by kernel_rfl)) (by unfold Func.isWrapper; first | (rw [if_pos (by decide +kernel)]; kernel_rfl) | (rw [if_neg (by decide +kernel)]; exact ⟨rfl, rfl⟩))
    (fun os started H enc _ => lifted os started H enc)
theorem proved : Rows.LuckSaysSaid := over
#print axioms proved
end Go.Proofs.Ytemogefcbemjfaa.luckSays
