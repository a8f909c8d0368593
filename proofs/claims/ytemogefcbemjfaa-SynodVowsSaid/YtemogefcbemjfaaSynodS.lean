/- Package synod: what was chosen. -/
import Derived.Test.YtemogefcbemjfaaSynodC
import Derived.Test.YtemogefcbemjfaaEqI
import Derived.Test.YtemogefcbemjfaaOpen
import Derived.Deep.RegionHeld3
namespace Go.Proofs.Ytemogefcbemjfaa
open Go.RowKit

set_option maxRecDepth 20000 in
set_option maxHeartbeats 400000 in
theorem size_any (n : Nat) (w : World) (hn : n < 4294967296) :
    Calls Try.prog 95 #[.int .u32 n] w fun e w' => e = .returned (.int .i64 (pcK n 32 : Nat)) ∧ w = w' := by
  go_enter Try.func95, Try.ntmps95
  go_wp2_with fail
  go_loop [3, 5] (fun s i => ∃ k : Nat, k ≤ 32 ∧ i = .int .i64 k ∧ s = .int .i64 (pcK n k : Nat)) (fun _ i => 32 - (intOf i).toNat)
  case atStart => exact ⟨0, by omega, rfl, rfl⟩
  case round =>
    obtain ⟨k, hk, rfl, rfl⟩ := hrel
    by_cases hlt : k < 32
    · have hle := pcK_le n k
      obtain ⟨p, hp⟩ : ∃ p : Bool, p = (n / 2 ^ k % 2 == 1) := ⟨_, rfl⟩
      have hs : pcK n (k + 1) = pcK n k + if p = true then 1 else 0 := by
        simp only [pcK, hp, beq_iff_eq]
        have : n / 2 ^ k % 2 < 2 := Nat.mod_lt _ (by decide)
        split <;> omega
      go_wp2_with fail
      refine (has_any _ _ _ hn hlt).mono ?_
      rintro e w' ⟨rfl, rfl⟩
      rw [← hp]
      clear hp
      cases p
      · go_wp2_with fail
        go_round
        case rel => exact ⟨k + 1, by omega, by go_num, by rw [hs]; simp⟩
        case measure => simp [intOf]; omega
      · go_wp2_with fail
        go_round
        case rel => exact ⟨k + 1, by omega, by go_num, by rw [hs]; simp⟩
        case measure => simp [intOf]; omega
    · obtain rfl : k = 32 := by omega
      go_wp2_with fail
      go_ret
      exact ⟨rfl, rfl⟩

structure Rnd where
  b : Int
  p : Nat
  heard : SL Vow
  asked : Bool
  v : Int
  acc : Nat
def Rnd.enc (x : Rnd) : List Value := [.int .i64 x.b, .int .u32 x.p, x.heard.val, .bool x.asked, .int .i64 x.v, .int .u32 x.acc]
def chs (m : Nat) : List Rnd → List Int
  | [] => []
  | x :: xs => if x.asked = true ∧ m < 2 * pcK x.acc 32 then x.v :: chs m xs else chs m xs
theorem chs_app (m : Nat) (xs ys : List Rnd) : chs m (xs ++ ys) = chs m xs ++ chs m ys := by
  induction xs with
  | nil => rfl
  | cons x xs ih => simp only [List.cons_append, chs, ih]; split <;> rfl
theorem chs_step (m : Nat) (xs : List Rnd) (k : Nat) (h : k < xs.length) : chs m (xs.take (k + 1)) = chs m (xs.take k) ++ if xs[k].asked = true ∧ m < 2 * pcK xs[k].acc 32 then [xs[k].v] else [] := by
  rw [take_snoc' xs k h, chs_app]; rfl
theorem chs_le (m : Nat) : ∀ xs : List Rnd, (chs m xs).length ≤ xs.length
  | [] => Nat.le_refl _
  | x :: xs => by have := chs_le m xs; simp only [chs]; split <;> simp <;> omega

theorem elT_i64 : ElT Try.prog 24 3 1 8 (.int .i64 0) := ElT.mk' Try.underlying24 (by kernel_rfl) rfl (by omega)
set_option maxRecDepth 20000 in
set_option maxHeartbeats 1000000 in
theorem chosen_any (a : Option Addr) (c m cm : Nat) (am : Option Addr) (xs : List Rnd) (B : Nat) (w : World) (he : Els w B a 6 Rnd.enc xs) (hacc : ∀ x ∈ xs, x.acc < 4294967296) (hlen : xs.length * 64 ≤ 140737488351232) (hm : m ≤ 140737488351232) (hB : B ≤ w.heap.size) :
    Calls Try.prog 53 #[.agg #[.slice am m cm, .slice a xs.length c]] w fun e w' => (∃ v n, e = .returned v ∧ w'.ownsRow (w.heap.size + 1) 3 1 v n ((chs m xs).flatMap ei64)) ∧ Below w.heap.size w w' := by
  have HE := PLift.up he
  have HA := PLift.up hacc
  clear he hacc
  go_enter Try.func53, Try.ntmps53
  go_wp2_with fail
  obtain ⟨w0, hw0⟩ : ∃ w0 : World, w0 = w.alloc (Obj.cells #[.slice am m cm, .slice a xs.length c] 70) := ⟨_, rfl⟩
  rw [← hw0]
  have c0 : w0.cell? ⟨w.heap.size, 0, none⟩ = some (.slice am m cm) := by rw [hw0]; simp [go_sem]
  have c1 : w0.cell? ⟨w.heap.size, 1, none⟩ = some (.slice a xs.length c) := by rw [hw0]; simp [go_sem]
  have hs0 : w0.heap.size = w.heap.size + 1 := by rw [hw0]; simp [go_sem]
  have HB0 : PLift (Below w.heap.size w w0) := PLift.up (by rw [hw0]; exact below_lit _ _)
  clear hw0
  go_loopw [3, 9] (fun v i wr => ∃ k n : Nat, k ≤ xs.length ∧ i = .int .i64 k ∧ n ≤ k ∧ Hid (wr.ownsRow (w.heap.size + 1) 3 1 v n ((chs m (xs.take k)).flatMap ei64) ∧ Below (w.heap.size + 1) w0 wr)) (fun _ i _ => xs.length - (intOf i).toNat)
  case atStart => exact ⟨0, 0, by omega, rfl, by omega, World.ownsRow_nil _ _ _ _, Below.refl _ _⟩
  case round =>
    obtain ⟨k, n, hk, rfl, hnk, hI⟩ := hrel
    have hsz := hI.out.2.size
    have d0 : wr.cell? ⟨w.heap.size, 0, none⟩ = some (.slice am m cm) := (hI.out.2.cell (p := ⟨_, _, none⟩) (by simp)).trans c0
    have d1 : wr.cell? ⟨w.heap.size, 1, none⟩ = some (.slice a xs.length c) := (hI.out.2.cell (p := ⟨_, _, none⟩) (by simp)).trans c1
    by_cases hlt : k < xs.length
    · have hA := HA.down _ (List.getElem_mem hlt)
      have he1 := HE.down.below (HB0.down.trans (hI.out.2.mono (Nat.le_succ _))) hB
      obtain ⟨b, o, rfl, hb', hc⟩ := he1.get k hlt
      have q0 := hc 0 _ rfl
      have q1 := hc 1 _ rfl
      have q2 := hc 2 _ rfl
      have q3 := hc 3 _ rfl
      have q4 := hc 4 _ rfl
      have q5 := hc 5 _ rfl
      simp only [← Nat.add_assoc, Nat.add_zero, SL.val] at q0 q1 q2 q3 q4 q5
      have HI := PLift.up hI.out
      have HS := PLift.up (chs_step m xs k hlt)
      have hpl := pcK_le xs[k].acc 32
      clear hc he1 hI
      by_cases hask : xs[k].asked = true
      · rw [hask] at q3
        go_wp2_with fail
        obtain ⟨w2, hw2⟩ : ∃ w2 : World, w2 = wr.alloc (Obj.cells #[.int .i64 xs[k].b, .int .u32 xs[k].p, .slice xs[k].heard.a xs[k].heard.xs.length xs[k].heard.c, .bool true, .int .i64 xs[k].v, .int .u32 xs[k].acc] 118) := ⟨_, rfl⟩
        rw [← hw2]
        have e3 : w2.cell? ⟨wr.heap.size, 3, none⟩ = some (.bool true) := by rw [hw2]; simp [go_sem]
        have e4 : w2.cell? ⟨wr.heap.size, 4, none⟩ = some (.int .i64 xs[k].v) := by rw [hw2]; simp [go_sem]
        have e5 : w2.cell? ⟨wr.heap.size, 5, none⟩ = some (.int .u32 xs[k].acc) := by rw [hw2]; simp [go_sem]
        have e0 : w2.cell? ⟨w.heap.size, 0, none⟩ = some (.slice am m cm) := by rw [hw2]; exact (below_lit wr _).cell (p := ⟨_, _, none⟩) (by simp; omega) |>.trans d0
        have e1 : w2.cell? ⟨w.heap.size, 1, none⟩ = some (.slice (some ⟨b, o, none⟩) xs.length c) := by rw [hw2]; exact (below_lit wr _).cell (p := ⟨_, _, none⟩) (by simp; omega) |>.trans d1
        have W2 : PLift (w2.ownsRow (w.heap.size + 1) 3 1 u3 n ((chs m (xs.take k)).flatMap ei64) ∧ Below (w.heap.size + 1) w0 w2) := PLift.up ⟨by rw [hw2]; exact HI.down.1.alloc _, by rw [hw2]; exact HI.down.2.alloc (by omega) _⟩
        clear hw2
        go_region_held3 (fun w' => w'.cell? ⟨wr.heap.size, 3, none⟩ = some (.bool true) ∧ w'.cell? ⟨wr.heap.size, 5, none⟩ = some (.int .u32 xs[k].acc) ∧ w'.cell? ⟨w.heap.size, 0, none⟩ = some (.slice am m cm)) (go_keep)
          (first | (go_at_call 94; refine Calls.mono (cnt_any _ _ ?_) ?_; assumption; rintro e w' ⟨rfl, rfl⟩))
        obtain ⟨w3, hw3⟩ : ∃ w3 : World, w3 = w2.drew.drew := ⟨_, rfl⟩
        have f4 : w3.cell? ⟨wr.heap.size, 4, none⟩ = some (.int .i64 xs[k].v) := by rw [hw3]; exact e4
        have f1 : w3.cell? ⟨w.heap.size, 1, none⟩ = some (.slice (some ⟨b, o, none⟩) xs.length c) := by rw [hw3]; exact e1
        have W3 : PLift (w3.ownsRow (w.heap.size + 1) 3 1 u3 n ((chs m (xs.take k)).flatMap ei64) ∧ Below (w.heap.size + 1) w0 w3) := PLift.up ⟨by rw [hw3]; exact W2.down.1.drew.drew, by rw [hw3]; exact W2.down.2.drew.drew⟩
        have h3s : w.heap.size + 1 ≤ w3.heap.size := by have := W3.down.2.size; omega
        rw [← hw3]
        have hwr : IntKind.i64.wrap (2 * (pcK xs[k].acc 32 : Int)) = 2 * (pcK xs[k].acc 32 : Int) := by rw [IntKind.wrap_i64]; omega
        rw [hwr]
        clear hw3 e0 e1 e3 e4 e5 W2 q0 q1 q2 q3 q4 q5
        by_cases hmm : m < 2 * pcK xs[k].acc 32
        · have HS' := PLift.up (HS.down.trans (by rw [if_pos ⟨hask, hmm⟩]))
          clear HS
          rw [show decide ((m : Int) < 2 * (pcK xs[k].acc 32 : Int)) = true from by simp; omega]
          go_wp2_with (at_builtin; refine wpApp _ rfl _ _ _ rfl (w.heap.size + 1) _ _ _ elT_i64 _ n ((chs m (xs.take k)).flatMap ei64) rfl (W3.down.1.alloc _) (some ⟨w3.heap.size, 0, none⟩) 1 1 [.int .i64 xs[k].v] rfl ?_ ?_ ?_ ?_ ?_ ?_ ?_ ?_)
          · rfl
          · simp
          · intro ad had j u hu
            obtain rfl := Option.some.inj had
            match j, hu with
            | 0, hu => simp at hu; subst hu; simp [Addr.add_lit, go_sem]
            | j + 1, hu => simp at hu
          · simp [Value.oneCell']
          · simp only [maxLen]; omega
          · omega
          · simp; omega
          · intro v' w1 hown hg _
            have hb1 : Below (w.heap.size + 1) w0 w1 := (W3.down.2.alloc h3s _).grown hg (by simp; omega) (fun q hq => (W3.down.1.lt q hq).1)
            have HO := PLift.up hown
            have HB := PLift.up hb1
            clear hown hb1 hg
            go_wp2_with fail
            go_roundw
            case rel => exact ⟨k + 1, n + 1, by omega, by go_num, by omega, by rw [HS'.down, List.flatMap_append]; exact HO.down, HB.down⟩
            case measure => simp [intOf]; omega
        · have HS' := PLift.up (HS.down.trans (by rw [if_neg (fun h => hmm h.2), List.append_nil]))
          clear HS
          rw [show decide ((m : Int) < 2 * (pcK xs[k].acc 32 : Int)) = false from by simp; omega]
          go_wp2_with fail
          go_roundw
          case rel => exact ⟨k + 1, n, by omega, by go_num, by omega, by rw [HS'.down]; exact W3.down.1, W3.down.2⟩
          case measure => simp [intOf]; omega
      · rw [show xs[k].asked = false from by simpa using hask] at q3
        have HS' := PLift.up (HS.down.trans (by rw [if_neg (fun h => hask h.1), List.append_nil]))
        clear HS
        go_wp2_with fail
        go_region
        go_wp2_with fail
        go_roundw
        case rel => exact ⟨k + 1, n, by omega, by go_num, by omega, by rw [HS'.down]; exact (HI.down.1.alloc _).drew, (HI.down.2.alloc (by omega) _).drew⟩
        case measure => simp [intOf]; omega
    · obtain rfl : k = xs.length := by omega
      have HI := PLift.up hI.out
      clear hI
      go_wp2_with fail
      go_returns
      have h1 := HI.down.1
      rw [List.take_length] at h1
      exact ⟨⟨_, _, rfl, h1⟩, HB0.down.trans (HI.down.2.mono (Nat.le_succ _))⟩

set_option maxRecDepth 20000 in
set_option maxHeartbeats 1000000 in
theorem chosenOf_any (a : Option Addr) (c m cm : Nat) (am : Option Addr) (xs : List Rnd) (B : Nat) (w : World) (he : Els w B a 6 Rnd.enc xs) (hacc : ∀ x ∈ xs, x.acc < 4294967296) (hlen : xs.length * 64 ≤ 140737488351232) (hm : m ≤ 140737488351232) (hB : B ≤ w.heap.size) :
    Calls Try.prog 54 #[.agg #[.slice am m cm, .slice a xs.length c]] w fun e w' => (∃ v n, e = .returned v ∧ w'.ownsRow (w.heap.size + 1) 3 1 v n ((chs m xs).flatMap ei64)) ∧ Below w.heap.size w w' := by
  have HE := PLift.up he
  have HA := PLift.up hacc
  clear he hacc
  go_enter Try.func54, Try.ntmps54
  go_wp2_with fail
  obtain ⟨w0, hw0⟩ : ∃ w0 : World, w0 = w.alloc (Obj.cells #[.slice am m cm, .slice a xs.length c] 70) := ⟨_, rfl⟩
  rw [← hw0]
  have c0 : w0.cell? ⟨w.heap.size, 0, none⟩ = some (.slice am m cm) := by rw [hw0]; simp [go_sem]
  have c1 : w0.cell? ⟨w.heap.size, 1, none⟩ = some (.slice a xs.length c) := by rw [hw0]; simp [go_sem]
  have hs0 : w0.heap.size = w.heap.size + 1 := by rw [hw0]; simp [go_sem]
  have HB0 : PLift (Below w.heap.size w w0) := PLift.up (by rw [hw0]; exact below_lit _ _)
  clear hw0
  go_loopw [3, 9] (fun v i wr => ∃ k n : Nat, k ≤ xs.length ∧ i = .int .i64 k ∧ n ≤ k ∧ Hid (wr.ownsRow (w.heap.size + 1) 3 1 v n ((chs m (xs.take k)).flatMap ei64) ∧ Below (w.heap.size + 1) w0 wr)) (fun _ i _ => xs.length - (intOf i).toNat)
  case atStart => exact ⟨0, 0, by omega, rfl, by omega, World.ownsRow_nil _ _ _ _, Below.refl _ _⟩
  case round =>
    obtain ⟨k, n, hk, rfl, hnk, hI⟩ := hrel
    have hsz := hI.out.2.size
    have d0 : wr.cell? ⟨w.heap.size, 0, none⟩ = some (.slice am m cm) := (hI.out.2.cell (p := ⟨_, _, none⟩) (by simp)).trans c0
    have d1 : wr.cell? ⟨w.heap.size, 1, none⟩ = some (.slice a xs.length c) := (hI.out.2.cell (p := ⟨_, _, none⟩) (by simp)).trans c1
    by_cases hlt : k < xs.length
    · have hA := HA.down _ (List.getElem_mem hlt)
      have he1 := HE.down.below (HB0.down.trans (hI.out.2.mono (Nat.le_succ _))) hB
      obtain ⟨b, o, rfl, hb', hc⟩ := he1.get k hlt
      have q0 := hc 0 _ rfl
      have q1 := hc 1 _ rfl
      have q2 := hc 2 _ rfl
      have q3 := hc 3 _ rfl
      have q4 := hc 4 _ rfl
      have q5 := hc 5 _ rfl
      simp only [← Nat.add_assoc, Nat.add_zero, SL.val] at q0 q1 q2 q3 q4 q5
      have HI := PLift.up hI.out
      have HS := PLift.up (chs_step m xs k hlt)
      have hpl := pcK_le xs[k].acc 32
      clear hc he1 hI
      by_cases hask : xs[k].asked = true
      · rw [hask] at q3
        go_wp2_with fail
        obtain ⟨w2, hw2⟩ : ∃ w2 : World, w2 = wr.alloc (Obj.cells #[.int .i64 xs[k].b, .int .u32 xs[k].p, .slice xs[k].heard.a xs[k].heard.xs.length xs[k].heard.c, .bool true, .int .i64 xs[k].v, .int .u32 xs[k].acc] 118) := ⟨_, rfl⟩
        rw [← hw2]
        have e3 : w2.cell? ⟨wr.heap.size, 3, none⟩ = some (.bool true) := by rw [hw2]; simp [go_sem]
        have e4 : w2.cell? ⟨wr.heap.size, 4, none⟩ = some (.int .i64 xs[k].v) := by rw [hw2]; simp [go_sem]
        have e5 : w2.cell? ⟨wr.heap.size, 5, none⟩ = some (.int .u32 xs[k].acc) := by rw [hw2]; simp [go_sem]
        have e0 : w2.cell? ⟨w.heap.size, 0, none⟩ = some (.slice am m cm) := by rw [hw2]; exact (below_lit wr _).cell (p := ⟨_, _, none⟩) (by simp; omega) |>.trans d0
        have e1 : w2.cell? ⟨w.heap.size, 1, none⟩ = some (.slice (some ⟨b, o, none⟩) xs.length c) := by rw [hw2]; exact (below_lit wr _).cell (p := ⟨_, _, none⟩) (by simp; omega) |>.trans d1
        have W2 : PLift (w2.ownsRow (w.heap.size + 1) 3 1 u3 n ((chs m (xs.take k)).flatMap ei64) ∧ Below (w.heap.size + 1) w0 w2) := PLift.up ⟨by rw [hw2]; exact HI.down.1.alloc _, by rw [hw2]; exact HI.down.2.alloc (by omega) _⟩
        clear hw2
        go_region_held3 (fun w' => w'.cell? ⟨wr.heap.size, 3, none⟩ = some (.bool true) ∧ w'.cell? ⟨wr.heap.size, 5, none⟩ = some (.int .u32 xs[k].acc) ∧ w'.cell? ⟨w.heap.size, 0, none⟩ = some (.slice am m cm)) (go_keep)
          (first | (go_at_call 95; refine Calls.mono (size_any _ _ ?_) ?_; assumption; rintro e w' ⟨rfl, rfl⟩))
        obtain ⟨w3, hw3⟩ : ∃ w3 : World, w3 = w2.drew := ⟨_, rfl⟩
        have f4 : w3.cell? ⟨wr.heap.size, 4, none⟩ = some (.int .i64 xs[k].v) := by rw [hw3]; exact e4
        have f1 : w3.cell? ⟨w.heap.size, 1, none⟩ = some (.slice (some ⟨b, o, none⟩) xs.length c) := by rw [hw3]; exact e1
        have W3 : PLift (w3.ownsRow (w.heap.size + 1) 3 1 u3 n ((chs m (xs.take k)).flatMap ei64) ∧ Below (w.heap.size + 1) w0 w3) := PLift.up ⟨by rw [hw3]; exact W2.down.1.drew, by rw [hw3]; exact W2.down.2.drew⟩
        have h3s : w.heap.size + 1 ≤ w3.heap.size := by have := W3.down.2.size; omega
        rw [← hw3]
        have hwr : IntKind.i64.wrap (2 * (pcK xs[k].acc 32 : Int)) = 2 * (pcK xs[k].acc 32 : Int) := by rw [IntKind.wrap_i64]; omega
        rw [hwr]
        clear hw3 e0 e1 e3 e4 e5 W2 q0 q1 q2 q3 q4 q5
        by_cases hmm : m < 2 * pcK xs[k].acc 32
        · have HS' := PLift.up (HS.down.trans (by rw [if_pos ⟨hask, hmm⟩]))
          clear HS
          rw [show decide ((m : Int) < 2 * (pcK xs[k].acc 32 : Int)) = true from by simp; omega]
          go_wp2_with (at_builtin; refine wpApp _ rfl _ _ _ rfl (w.heap.size + 1) _ _ _ elT_i64 _ n ((chs m (xs.take k)).flatMap ei64) rfl (W3.down.1.alloc _) (some ⟨w3.heap.size, 0, none⟩) 1 1 [.int .i64 xs[k].v] rfl ?_ ?_ ?_ ?_ ?_ ?_ ?_ ?_)
          · rfl
          · simp
          · intro ad had j u hu
            obtain rfl := Option.some.inj had
            match j, hu with
            | 0, hu => simp at hu; subst hu; simp [Addr.add_lit, go_sem]
            | j + 1, hu => simp at hu
          · simp [Value.oneCell']
          · simp only [maxLen]; omega
          · omega
          · simp; omega
          · intro v' w1 hown hg _
            have hb1 : Below (w.heap.size + 1) w0 w1 := (W3.down.2.alloc h3s _).grown hg (by simp; omega) (fun q hq => (W3.down.1.lt q hq).1)
            have HO := PLift.up hown
            have HB := PLift.up hb1
            clear hown hb1 hg
            go_wp2_with fail
            go_roundw
            case rel => exact ⟨k + 1, n + 1, by omega, by go_num, by omega, by rw [HS'.down, List.flatMap_append]; exact HO.down, HB.down⟩
            case measure => simp [intOf]; omega
        · have HS' := PLift.up (HS.down.trans (by rw [if_neg (fun h => hmm h.2), List.append_nil]))
          clear HS
          rw [show decide ((m : Int) < 2 * (pcK xs[k].acc 32 : Int)) = false from by simp; omega]
          go_wp2_with fail
          go_roundw
          case rel => exact ⟨k + 1, n, by omega, by go_num, by omega, by rw [HS'.down]; exact W3.down.1, W3.down.2⟩
          case measure => simp [intOf]; omega
      · rw [show xs[k].asked = false from by simpa using hask] at q3
        have HS' := PLift.up (HS.down.trans (by rw [if_neg (fun h => hask h.1), List.append_nil]))
        clear HS
        go_wp2_with fail
        go_region
        go_wp2_with fail
        go_roundw
        case rel => exact ⟨k + 1, n, by omega, by go_num, by omega, by rw [HS'.down]; exact (HI.down.1.alloc _).drew, (HI.down.2.alloc (by omega) _).drew⟩
        case measure => simp [intOf]; omega
    · obtain rfl : k = xs.length := by omega
      have HI := PLift.up hI.out
      clear hI
      go_wp2_with fail
      go_returns
      have h1 := HI.down.1
      rw [List.take_length] at h1
      exact ⟨⟨_, _, rfl, h1⟩, HB0.down.trans (HI.down.2.mono (Nat.le_succ _))⟩

end Go.Proofs.Ytemogefcbemjfaa
