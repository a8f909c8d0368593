/- Package luck: Deal; the reference's Dealt. -/
import Derived.Test.YtemogefcbemjfaaLuckR
import Derived.RegionTactic
import Derived.ChangeAlike
import Derived.Deep.QuietTactic
import Derived.BigQuiet
namespace Go.Proofs.Ytemogefcbemjfaa
open Go.RowKit

theorem fm_i64 (xs : List Int) : xs.flatMap ei64 = xs.map (Value.int .i64) := by
  induction xs with
  | nil => rfl
  | cons x xs ih => rw [List.flatMap_cons, ih]; rfl
theorem one_i64 (xs : List Int) : ∀ x ∈ xs, (ei64 x).length = 1 := fun _ _ => rfl
theorem cell_i64 (xs : List Int) : ∀ u ∈ xs.flatMap ei64, u.oneCell' = true := by
  intro u hu
  obtain ⟨x, _, h⟩ := List.mem_flatMap.1 hu
  simp [ei64] at h; subst h; rfl
theorem elT_i64 : ElT Try.prog 24 3 1 8 (.int .i64 0) := ElT.mk' Try.underlying24 (by kernel_rfl) rfl (by decide)

/-- A row of ints of the call's own: its cells. -/
theorem own_i64 {w : World} {base e g cap : Nat} {xs : List Int} (h : w.ownsRow base e 1 (.slice (some ⟨g, 0, none⟩) xs.length cap) xs.length (xs.flatMap ei64)) (j : Nat) (hj : j < xs.length) :
    w.cell? ⟨g, j, none⟩ = some (.int .i64 xs[j]) ∧ w.frozen? ⟨g, j, none⟩ = false := by
  refine ⟨?_, h.frozenAt j⟩
  rw [h.cellAt j (by omega), fm_i64]
  simp [hj]

def swp (l : List Int) (k j : Nat) : List Int := (l.set k (l.getD j 0)).set j (l.getD k 0)
theorem swp_len (l : List Int) (k j : Nat) : (swp l k j).length = l.length := by simp [swp]
theorem swp_comm (l : List Int) (k j : Nat) : swp l k j = (l.set j (l.getD k 0)).set k (l.getD j 0) := by
  unfold swp
  by_cases h : k = j
  · subst h; rfl
  · rw [List.set_comm _ _ h]
def dlG (nxt : Nat → Nat) (pick : Nat → Nat → Nat) : Nat → List Int → Nat → List Int × Nat
  | 0, c, s => (c, s)
  | k + 1, c, s => dlG nxt pick k (swp c (k + 1) (pick (nxt s) (k + 1))) (nxt s)
def pk (s m : Nat) : Nat := s / 65536 * (m + 1) / 65536
def dl (k : Nat) (c : List Int) (s : Nat) : List Int × Nat := dlG nx pk k c s
theorem dl_zero (c : List Int) (s : Nat) : dl 0 c s = (c, s) := rfl
theorem dlG_succ (nxt : Nat → Nat) (pick : Nat → Nat → Nat) (k : Nat) (c : List Int) (s : Nat) : dlG nxt pick (k + 1) c s = dlG nxt pick k (swp c (k + 1) (pick (nxt s) (k + 1))) (nxt s) := rfl
theorem dl_succ (k : Nat) (c : List Int) (s : Nat) : dl (k + 1) c s = dl k (swp c (k + 1) (pk (nx s) (k + 1))) (nx s) := dlG_succ nx pk k c s
def deck (n : Nat) : List Int := (List.range n).map fun i : Nat => (i : Int)
theorem dl_pos (m : Nat) (hm : 0 < m) (c : List Int) (s : Nat) : dl m c s = dl (m - 1) (swp c m (pk (nx s) m)) (nx s) := by
  obtain ⟨k, rfl⟩ : ∃ k, m = k + 1 := ⟨m - 1, by omega⟩
  exact dl_succ k c s
theorem dlG_facts (nxt : Nat → Nat) (pick : Nat → Nat → Nat) (p : Nat → Prop) (hp : ∀ s, p (nxt s)) : ∀ (k : Nat) (c : List Int) (s : Nat), (dlG nxt pick k c s).1.length = c.length ∧ (p s → p (dlG nxt pick k c s).2) := by
  intro k
  induction k with
  | zero => intro c s; exact ⟨rfl, fun h => h⟩
  | succ k ih =>
    intro c s
    obtain ⟨h1, h2⟩ := ih (swp c (k + 1) (pick (nxt s) (k + 1))) (nxt s)
    rw [dlG_succ]
    exact ⟨by rw [h1, swp_len], fun _ => h2 (hp s)⟩
theorem dl_facts (k : Nat) (c : List Int) (s : Nat) : (dl k c s).1.length = c.length ∧ (s < 4294967296 → (dl k c s).2 < 4294967296) := dlG_facts nx pk (· < 4294967296) nx_lt k c s
theorem pick_le (s m : Nat) (hs : s < 4294967296) : pk s m ≤ m := by
  unfold pk
  have h1 : s / 65536 * (m + 1) ≤ 65535 * (m + 1) := Nat.mul_le_mul_right _ (by omega)
  have : s / 65536 * (m + 1) / 65536 < m + 1 := by rw [Nat.div_lt_iff_lt_mul (by decide)]; omega
  omega
theorem own_set {w : World} {base e g cap n : Nat} {xs : List Int} (h : w.ownsRow base e 1 (.slice (some ⟨g, 0, none⟩) n cap) n (xs.flatMap ei64)) (j : Nat) (x : Int) :
    (w.setCell ⟨g, j, none⟩ (.int .i64 x)).ownsRow base e 1 (.slice (some ⟨g, 0, none⟩) n cap) n ((xs.set j x).flatMap ei64) ∧ w.grownBy (w.setCell ⟨g, j, none⟩ (.int .i64 x)) (some g) := by
  have := h.stored j (.int .i64 x)
  rw [fm_i64, ← List.map_set, ← fm_i64] at this
  exact this

theorem cell_set_some {w : World} {g i j : Nat} {x v : Value} (h : w.cell? ⟨g, j, none⟩ = some v) : ∃ v', (w.setCell ⟨g, i, none⟩ x).drew.cell? ⟨g, j, none⟩ = some v' := by
  by_cases e : (⟨g, i, none⟩ : Addr) = ⟨g, j, none⟩
  · rw [e]; exact ⟨x, World.cell?_setCell_same w ⟨g, j, none⟩ x h⟩
  · exact ⟨v, (World.cell?_setCell_other w _ _ x e).trans h⟩
set_option maxHeartbeats 1000000 in
set_option maxRecDepth 20000 in
theorem deal_any (s0 n : Nat) (w : World) (hs : s0 < 4294967296) (hn : n ≤ 52) :
    Calls Try.prog 40 #[.int .u32 s0, .int .i64 n] w fun e w' => (∃ v, e = .returned (.tuple #[v, .int .u32 (dl (n - 1) (deck n) s0).2, .int .i64 0]) ∧ w'.ownsRow w.heap.size 3 1 v n ((dl (n - 1) (deck n) s0).1.flatMap ei64)) ∧ Below w.heap.size w w' := by
  have g2 : decide ((52 : Int) < (n : Int)) = false := by simp; omega
  go_enter Try.func40, Try.ntmps40
  go_wp2_with (at_make; refine wpMake _ rfl _ _ _ rfl w.heap.size _ _ _ elT_i64 n _ _ rfl rfl rfl rfl ?_ ?_ ?_ ?_)
  · omega
  · simp only [maxLen]; omega
  · omega
  intro w1 hown hg
  have hb1 : Below w.heap.size w w1 := (Below.refl _ _).grown hg (Nat.le_refl _) (by simp)
  have HO := PLift.up hown
  have HB1 := PLift.up hb1
  clear hown hb1 hg
  go_wp2_with fail
  go_loopw [8, 22] (fun _ i wr => ∃ (k : Nat) (c : List Int), k ≤ n ∧ i = .int .i64 k ∧ Hid (wr.ownsRow w.heap.size 3 1 (.slice (some ⟨w.heap.size, 0, none⟩) n n) n (c.flatMap ei64) ∧ c.take k = deck k ∧ c.length = n ∧ Below w.heap.size w wr)) (fun _ i _ => n - (intOf i).toNat)
  case atStart =>
    have h := HO.down
    rw [show List.replicate n (Value.int .i64 0) = (List.replicate n (0 : Int)).flatMap ei64 from by rw [fm_i64]; simp] at h
    exact ⟨0, List.replicate n 0, by omega, rfl, h, by simp [deck], by simp, HB1.down⟩
  case round =>
    obtain ⟨k, c, hk, rfl, hI⟩ := hrel
    by_cases hlt : k < n
    · obtain ⟨i1, i2, i3, i4⟩ := hI.out
      have hst := own_set i1 k (k : Int)
      obtain ⟨u, hc1, hc2⟩ : ∃ u, wr.cell? ⟨w.heap.size, k, none⟩ = some u ∧ wr.frozen? ⟨w.heap.size, k, none⟩ = false := by
        obtain ⟨h1, h2⟩ := own_i64 (by rw [i3]; exact i1) k (by omega)
        exact ⟨_, h1, h2⟩
      have HST := PLift.up hst; clear hst
      have HI := PLift.up hI.out
      have hlen := PLift.up i3
      clear i1 i2 i3 i4 hI
      go_wp2_with fail
      go_roundw
      case rel =>
        refine ⟨k + 1, c.set k k, by omega, by go_num, HST.down.1, ?_, by simp [hlen.down], ?_⟩
        · rw [take_snoc' _ k (by simp [hlen.down]; omega), List.take_set_of_le (Nat.le_refl k), HI.down.2.1]
          simp [deck, List.range_succ]
        · exact HI.down.2.2.2.grown HST.down.2 HI.down.2.2.2.size (by simp)
      case measure => simp [intOf]; omega
    · obtain ⟨i1, i2, i3, i4⟩ := hI.out
      obtain rfl : k = n := by omega
      have hcd : c = deck k := by rw [← i2, ← i3, List.take_length]
      subst hcd
      have H1 := PLift.up i1
      have H4 := PLift.up i4
      clear i1 i2 i3 i4 hI
      go_wp2_with fail
      go_loopw [0, 9, 10] (fun s q _ wr => ∃ (S : Nat) (m : Int) (c : List Int), S < 4294967296 ∧ s = .int .u32 S ∧ q = .int .i64 m ∧ -1 ≤ m ∧ m < k ∧ Hid (wr.ownsRow w.heap.size 3 1 (.slice (some ⟨w.heap.size, 0, none⟩) k k) k (c.flatMap ei64) ∧ c.length = k ∧ Below w.heap.size w wr ∧ dl m.toNat c S = dl (k - 1) (deck k) s0)) (fun _ q _ _ => (intOf q).toNat)
      case atStart => exact ⟨s0, (k : Int) - 1, deck k, hs, rfl, rfl, by omega, by omega, H1.down, by simp [deck], H4.down, by congr 1; omega⟩
      case round =>
        obtain ⟨S, m, c, hS, rfl, rfl, hm1, hm2, hI⟩ := hrel
        by_cases hpos : 0 < m
        · obtain ⟨M, rfl⟩ := Int.eq_ofNat_of_zero_le (show 0 ≤ m by omega)
          have hM : 0 < M := by omega
          have hMk : M < k := by omega
          obtain ⟨i1, i2, i3, i4⟩ := hI.out
          have hpl : pk (nx S) M ≤ M := pick_le _ _ (nx_lt S)
          have hnl := nx_lt S
          have hstep := dl_pos M hM c S
          rw [Int.toNat_natCast, hstep] at i4
          have hpick : ∀ w, Calls Try.prog 39 #[.int .u32 S, .int .i64 (M + 1 : Nat)] w fun e w' => e = .returned (.tuple #[.int .i64 (pk (nx S) M : Nat), .int .u32 (nx S : Nat), .int .i64 0]) ∧ w = w' := fun w => pick_any S (M + 1) w hS (by omega) (by omega)
          have HP := PLift.up hpick
          clear hpick hstep
          generalize pk (nx S) M = j at *
          generalize nx S = S2 at *
          have I4 := PLift.up i4; clear i4
          obtain ⟨hk1, hk2⟩ := own_i64 (by rw [i2]; exact i1) M (by omega)
          obtain ⟨hj1, hj2⟩ := own_i64 (by rw [i2]; exact i1) j (by omega)
          have hgk : c.getD M 0 = c[M]'(by omega) := by simp [List.getD, show M < c.length by omega]
          have hgj : c.getD j 0 = c[j]'(by omega) := by simp [List.getD, show j < c.length by omega]
          generalize c[M]'(by omega) = x at *
          generalize c[j]'(by omega) = y at *
          have HG1 := PLift.up hgk; have HG2 := PLift.up hgj
          have HI := PLift.up hI.out
          have hlen := PLift.up i2
          clear i1 i2 i3 hI hgk hgj
          go_wp2_with fail
          rw [show ((M : Int) + 1) = ((M + 1 : Nat) : Int) from by omega]
          refine (HP.down _).mono ?_
          rintro e w2 ⟨rfl, rfl⟩
          go_wp2_with fail
          obtain ⟨y2, hy2⟩ := cell_set_some (i := M) (x := .int .i64 y) hj1
          as_aux_lemma =>
            go_region
            go_wp2_with fail
            go_roundw
            case rel =>
              obtain ⟨i1, i2, i3, _⟩ := HI.down
              have h1 := own_set i1 M y
              have h2 := own_set h1.1 j x
              refine ⟨S2, (M : Int) - 1, swp c M j, hnl, rfl, rfl, by omega, by omega, ?_, by rw [swp_len, i2], ?_, ?_⟩
              · have h3 := h2.1.drew
                simp only [swp, HG1.down, HG2.down]
                exact h3
              · exact ((i3.grown h1.2 i3.size (by simp)).grown h2.2 (Nat.le_trans i3.size h1.2.size) (by simp)).drew
              · rw [← I4.down]; congr 1; omega
            case measure => simp [intOf]; omega
        · obtain ⟨i1, i2, i3, i4⟩ := hI.out
          have hm0 : m.toNat = 0 := by omega
          rw [hm0, dl_zero] at i4
          have I4 := PLift.up i4
          have I1 := PLift.up i1
          have I3 := PLift.up i3
          clear i1 i2 i3 i4 hI hm0
          go_wp2_with fail
          go_ret3
          refine ⟨⟨_, by rw [← I4.down]; rfl, by rw [← I4.down]; exact I1.down⟩, I3.down⟩

set_option maxHeartbeats 1000000 in
set_option maxRecDepth 20000 in
theorem dealt_any (s0 n : Nat) (w : World) (hs : s0 < 4294967296) (hn : n ≤ 52) :
    Calls Try.prog 46 #[.int .u32 s0, .int .i64 n] w fun e w' => (∃ v, e = .returned (.tuple #[v, .int .u32 (dl (n - 1) (deck n) s0).2]) ∧ w'.ownsRow w.heap.size 3 1 v n ((dl (n - 1) (deck n) s0).1.flatMap ei64)) ∧ Below w.heap.size w w' := by
  go_enter Try.func46, Try.ntmps46
  go_wp2_with fail
  go_loopw [6, 7, 13] (fun v _ i wr => ∃ (k : Nat), k ≤ n ∧ i = .int .i64 k ∧ Hid (wr.ownsRow w.heap.size 3 1 v k ((deck k).flatMap ei64) ∧ Below w.heap.size w wr)) (fun _ _ i _ => n - (intOf i).toNat)
  case atStart => exact ⟨0, by omega, rfl, World.ownsRow_nil _ _ _ _, Below.refl _ _⟩
  case round =>
    obtain ⟨k, hk, rfl, hI⟩ := hrel
    have HI := PLift.up hI.out; clear hI
    by_cases hlt : k < n
    · go_wp2_with (at_builtin; refine wpApp _ rfl _ _ _ rfl w.heap.size _ _ _ elT_i64 _ k ((deck k).flatMap ei64) rfl (HI.down.1.alloc _) (some ⟨wr.heap.size, 0, none⟩) 1 1 [.int .i64 k] rfl ?_ ?_ ?_ ?_ ?_ ?_ ?_ ?_)
      · rfl
      · simp
      · intro ad had j u hu
        obtain rfl := Option.some.inj had
        match j, hu with
        | 0, hu => simp at hu; subst hu; simp [Addr.add_lit, go_sem]
        | j + 1, hu => simp at hu
      · simp [Value.oneCell']
      · simp only [maxLen]; omega
      · omega
      · have := HI.down.2.size; simp; omega
      · intro v' w1 hown hg _
        have hd : deck (k + 1) = deck k ++ [(k : Int)] := by simp [deck, List.range_succ]
        have hb1 : Below w.heap.size w w1 := (HI.down.2.alloc HI.down.2.size _).grown hg (by have := HI.down.2.size; simp; omega) (fun q hq => (HI.down.1.lt q hq).1)
        have HO := PLift.up hown
        have HB := PLift.up hb1
        clear hown hb1 hg
        go_wp2_with fail
        go_roundw
        case rel => exact ⟨k + 1, by omega, by go_num, by rw [hd, List.flatMap_append]; exact HO.down, HB.down⟩
        case measure => simp [intOf]; omega
    · obtain rfl : k = n := by omega
      rcases HI.down.1.2 with ⟨rfl, h0⟩ | ⟨g, cap, cur, rfl, hgB, _⟩
      · subst h0
        have H1 := HI.down.1
        have H2 := HI.down.2
        have h1 := PLift.up H1
        have h2 := PLift.up H2
        clear H1 H2 HI
        go_wp2_with fail
        go_rounds 1
        go_ret2
        exact ⟨⟨_, rfl, h1.down⟩, h2.down⟩
      · have H1 := PLift.up HI.down.1
        have H4 := PLift.up HI.down.2
        clear HI
        go_wp2_with fail
        go_loopw [0, 8, 9, 10, 11] (fun s q _ _ _ wr => ∃ (S : Nat) (m : Int) (c : List Int), S < 4294967296 ∧ s = .int .u32 S ∧ q = .int .i64 m ∧ -1 ≤ m ∧ m < k ∧ Hid (wr.ownsRow w.heap.size 3 1 (.slice (some ⟨g, 0, none⟩) k cap) k (c.flatMap ei64) ∧ c.length = k ∧ Below w.heap.size w wr ∧ dl m.toNat c S = dl (k - 1) (deck k) s0)) (fun _ q _ _ _ _ => (intOf q).toNat)
        case atStart => exact ⟨s0, (k : Int) - 1, deck k, hs, rfl, rfl, by omega, by omega, H1.down, by simp [deck], H4.down, by congr 1; omega⟩
        case round =>
          obtain ⟨S, m, c, hS, rfl, rfl, hm1, hm2, hI⟩ := hrel
          by_cases hpos : 0 < m
          · obtain ⟨M, rfl⟩ := Int.eq_ofNat_of_zero_le (show 0 ≤ m by omega)
            have hM : 0 < M := by omega
            have hMk : M < k := by omega
            obtain ⟨i1, i2, i3, i4⟩ := hI.out
            have hpl : pk (nx S) M ≤ M := pick_le _ _ (nx_lt S)
            have hnl := nx_lt S
            have hstep := dl_pos M hM c S
            rw [Int.toNat_natCast, hstep] at i4
            have hpick : ∀ w, Calls Try.prog 45 #[.int .u32 S, .int .i64 (M + 1 : Nat)] w fun e w' => e = .returned (.tuple #[.int .i64 (pk (nx S) M : Nat), .int .u32 (nx S : Nat)]) ∧ w = w' := fun w => luck_any S (M + 1) w hS (by omega) (by omega)
            have HP := PLift.up hpick
            clear hpick hstep
            generalize pk (nx S) M = j at *
            generalize nx S = S2 at *
            have I4 := PLift.up i4; clear i4
            obtain ⟨hk1, hk2⟩ := own_i64 (by rw [i2]; exact i1) M (by omega)
            obtain ⟨hj1, hj2⟩ := own_i64 (by rw [i2]; exact i1) j (by omega)
            have hgk : c.getD M 0 = c[M]'(by omega) := by simp [List.getD, show M < c.length by omega]
            have hgj : c.getD j 0 = c[j]'(by omega) := by simp [List.getD, show j < c.length by omega]
            generalize c[M]'(by omega) = x at *
            generalize c[j]'(by omega) = y at *
            have HG1 := PLift.up hgk; have HG2 := PLift.up hgj
            have HI := PLift.up hI.out
            clear i1 i2 i3 hI hgk hgj
            go_wp2_with fail
            rw [show ((M : Int) + 1) = ((M + 1 : Nat) : Int) from by omega]
            refine (HP.down _).mono ?_
            rintro e w2 ⟨rfl, rfl⟩
            go_wp2_with fail
            obtain ⟨y2, hy2⟩ := cell_set_some (i := j) (x := .int .i64 x) hk1
            as_aux_lemma =>
              go_region
              go_wp2_with fail
              go_roundw
              case rel =>
                obtain ⟨i1, i2, i3, _⟩ := HI.down
                have h1 := own_set i1 j x
                have h2 := own_set h1.1 M y
                refine ⟨S2, (M : Int) - 1, swp c M j, hnl, rfl, rfl, by omega, by omega, ?_, by rw [swp_len, i2], ?_, ?_⟩
                · have h3 := h2.1.drew
                  simp only [swp_comm, HG1.down, HG2.down]
                  exact h3
                · exact ((i3.grown h1.2 i3.size (by intro q hq; cases hq; exact hgB)).grown h2.2 (Nat.le_trans i3.size h1.2.size) (by intro q hq; cases hq; exact hgB)).drew
                · rw [← I4.down]; congr 1; omega
              case measure => simp [intOf]; omega
          · obtain ⟨i1, i2, i3, i4⟩ := hI.out
            have hm0 : m.toNat = 0 := by omega
            rw [hm0, dl_zero] at i4
            have I4 := PLift.up i4
            have I1 := PLift.up i1
            have I3 := PLift.up i3
            clear i1 i2 i3 i4 hI hm0
            go_wp2_with fail
            go_ret2
            exact ⟨⟨_, by rw [← I4.down]; rfl, by rw [← I4.down]; exact I1.down⟩, I3.down⟩
end Go.Proofs.Ytemogefcbemjfaa
