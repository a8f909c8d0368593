/- Package mark: Of, Change; slices.Clone of u64s. -/
import Derived.Test.YtemogefcbemjfaaMarkM
namespace Go.Proofs.Ytemogefcbemjfaa
open Go.RowKit

theorem below_lit (w : World) (o : Obj) : Below w.heap.size w (w.alloc o) := (Below.refl _ _).alloc (Nat.le_refl _) _
theorem Els.newOne {w : World} {o : Array Value} {e : TypeId} (u : U64s) (ho : o = #[u.val]) : Els (w.alloc (.cells o e)) (w.heap.size + 1) (some ⟨w.heap.size, 0, none⟩) 1 U64s.enc [u] := by
  subst ho
  refine .inr ⟨w.heap.size, 0, rfl, by omega, fun i j v hv => ?_⟩
  match i, j, hv with
  | 0, 0, hv => simp [U64s.enc] at hv; subst hv; simp [go_sem]
  | 0, j + 1, hv => simp [U64s.enc] at hv
  | i + 1, j, hv => simp at hv
theorem Els.newTwo {w : World} {o : Array Value} {e : TypeId} (u u2 : U64s) (ho : o = #[u.val, u2.val]) : Els (w.alloc (.cells o e)) (w.heap.size + 1) (some ⟨w.heap.size, 0, none⟩) 1 U64s.enc [u, u2] := by
  subst ho
  refine .inr ⟨w.heap.size, 0, rfl, by omega, fun i j v hv => ?_⟩
  match i, j, hv with
  | 0, 0, hv => simp [U64s.enc] at hv; subst hv; simp [go_sem]
  | 1, 0, hv => simp [U64s.enc] at hv; subst hv; simp [go_sem]
  | 0, j + 1, hv => simp [U64s.enc] at hv
  | 1, j + 1, hv => simp [U64s.enc] at hv
  | i + 2, j, hv => simp at hv
theorem Els.lt_some {α : Type} {w : World} {B : Nat} {a : Option Addr} {sz : Nat} {enc : α → List Value} {xs : List α} (h : Els w B a sz enc xs) (o : Obj) (hB : B ≤ w.heap.size) : Els (w.alloc o) B a sz enc xs := h.below (below_lit w o) hB

set_option maxHeartbeats 800000 in
theorem of_any (a : Option Addr) (c B : Nat) (xs : List Nat) (w : World) (hm : xs.length ≤ 1000) (hx : Els w B a 1 e64 xs) (hB : B ≤ w.heap.size) :
    Calls Try.prog 18 #[.slice a xs.length c] w fun e w' => e = .returned (.int .u64 (mk 0 xs : Nat)) ∧ Below w.heap.size w w' := by
  have H := Lib.hid hx; clear hx
  go_enter Try.func18, Try.ntmps18
  go_wp2_with fail
  refine (all_any _ _ (w.heap.size + 1) [⟨a, c, xs⟩] _ (by simp) (Els.newOne ⟨a, c, xs⟩ rfl) ?_).mono ?_
  · intro u hu
    simp at hu; subst hu
    exact ⟨(H.out.lt_some _ hB).mono (by omega), by simp only [maxLen]; omega⟩
  · rintro e w' ⟨rfl, rfl⟩
    go_wp2_with fail
    go_ret
    exact ⟨ret_u64 (by simp [flat]), below_lit _ _⟩

set_option maxHeartbeats 800000 in
theorem change_any (a a2 : Option Addr) (c c2 B m : Nat) (xs ys : List Nat) (w : World) (hm : m < 18446744073709551616) (hxm : xs.length ≤ 1000) (hym : ys.length ≤ 1000) (hx : Els w B a 1 e64 xs) (hy : Els w B a2 1 e64 ys) (hB : B ≤ w.heap.size) :
    Calls Try.prog 20 #[.int .u64 m, .slice a xs.length c, .slice a2 ys.length c2] w fun e w' => e = .returned (.int .u64 (m ^^^ mk 0 (xs ++ ys) : Nat)) ∧ Below w.heap.size w w' := by
  have H := Lib.hid hx; clear hx
  have H2 := Lib.hid hy; clear hy
  have hxo := xorN m (mk 0 (xs ++ ys)) hm (mk_lt _ _ (by decide))
  have HX := Lib.hid hxo; clear hxo hm
  go_enter Try.func20, Try.ntmps20
  go_wp2_with fail
  refine (all_any _ _ (w.heap.size + 1) [⟨a, c, xs⟩, ⟨a2, c2, ys⟩] _ (by simp) (Els.newTwo ⟨a, c, xs⟩ ⟨a2, c2, ys⟩ rfl) ?_).mono ?_
  · intro u hu
    simp at hu
    rcases hu with rfl | rfl
    · exact ⟨(H.out.lt_some _ hB).mono (by omega), by simp only [maxLen]; omega⟩
    · exact ⟨(H2.out.lt_some _ hB).mono (by omega), by simp only [maxLen]; omega⟩
  · rintro e w' ⟨rfl, rfl⟩
    have hf : flat [⟨a, c, xs⟩, ⟨a2, c2, ys⟩] = xs ++ ys := by simp [flat]
    rw [hf]
    go_wp2_with fail
    go_ret
    exact ⟨ret_u64 HX.out, below_lit _ _⟩

theorem elT_u64 : ElT Try.prog 29 28 1 8 := ElT.mk' (z := .int .u64 0) Try.underlying29 (by kernel_rfl) rfl (by decide)

theorem one_u64 (xs : List Nat) : ∀ x ∈ xs, (e64 x).length = 1 := fun _ _ => rfl
theorem cell_u64 (xs : List Nat) : ∀ u ∈ xs.flatMap e64, u.oneCell' = true := by
  intro u hu
  obtain ⟨x, _, h⟩ := List.mem_flatMap.1 hu
  simp [e64] at h; subst h; rfl

set_option maxHeartbeats 800000 in
set_option maxRecDepth 100000 in
theorem clone_u64 (a : Option Addr) (c B : Nat) (xs : List Nat) (w : World) (hm : xs.length ≤ 1000000) (hx : Els w B a 1 e64 xs) (hB : B ≤ w.heap.size) (hn : a = none → xs.length = 0 ∧ c = 0) :
    Calls Try.prog 14 #[.slice a xs.length c] w fun e w' => (∃ v, e = .returned v ∧ w'.ownsRow w.heap.size 28 1 v xs.length (xs.flatMap e64)) ∧ Below w.heap.size w w' := by
  have H := Lib.hid hx; clear hx
  have HN := Lib.hid hn; clear hn
  have e1 := fun w => Lib.run_eql_slice_nil (P := Try.prog) (w := w) 29 28 a xs.length c 0 0 Try.underlying29
  cases a with
  | none =>
    obtain ⟨h0, hc⟩ := HN.out rfl
    have hxs : xs = [] := List.eq_nil_of_length_eq_zero h0
    subst hxs
    clear h0 e1
    have e1 := fun w => Lib.run_eql_slice_nil (P := Try.prog) (w := w) 29 28 none 0 0 0 0 Try.underlying29
    subst hc
    go_enter Try.func14, Try.ntmps14
    go_wp2_with fail
    go_ret
    exact ⟨⟨_, rfl, World.ownsRow_nil _ _ _ _⟩, Below.refl _ _⟩
  | some p =>
    go_enter Try.func14, Try.ntmps14
    go_wp2_with (at_builtin; refine wpApp _ rfl _ _ _ rfl w.heap.size _ _ _ elT_u64 _ 0 [] rfl (World.ownsRow_made w #[] 0 (Nat.le_refl _) (by simp) rfl) (some p) xs.length c (xs.flatMap e64) rfl ?_ ?_ ?_ ?_ ?_ ?_ ?_ ?_)
    · rw [flatMap_len e64 1 xs (one_u64 xs)]
    · simp
    · exact (H.out.lt_some _ hB).news (one_u64 xs)
    · exact cell_u64 xs
    · simp only [maxLen]; omega
    · omega
    · simp
    · intro v' w' hown hg _
      have hb : Below w.heap.size w w' := (below_lit w _).grown hg (by simp) (by intro k hk; simp [Value.ownBlock] at hk; omega)
      try simp only [Nat.zero_add, List.nil_append] at hown
      have HO := Lib.hid hown; clear hown
      have HB := Lib.hid hb; clear hb hg
      go_wp2_with fail
      go_ret
      exact ⟨⟨_, rfl, HO.out⟩, HB.out⟩
end Go.Proofs.Ytemogefcbemjfaa
