/-
  THE LAW Names: the numbers of errors, kinds and limits are the document's. It takes nothing in; no condition.
-/
import Derived.Test.YtemogefcbemjfaaRows
import Derived.Test.YtemogefcbemjfaaEqI
import Derived.Test.YtemogefcbemjfaaOpen
namespace Go.Proofs.Ytemogefcbemjfaa.names
open Go.ChangeShapes Go.WideShapes Go.ChangeAt Go.RowKit
set_option linter.unusedVariables false

theorem Els.lit {α : Type} (w : World) (e sz : Nat) (enc : α → List Value) (xs : List α) (cs : Array Value) (hc : cs = (xs.flatMap enc).toArray) (he : ∀ x ∈ xs, (enc x).length = sz) :
    Els (w.alloc (.cells cs e)) (w.heap.size + 1) (some ⟨w.heap.size, 0, none⟩) sz enc xs := by
  subst hc
  refine .inr ⟨w.heap.size, 0, rfl, by omega, fun i j v hv => ?_⟩
  have hj : j < sz := by
    cases hx : xs[i]? with
    | none => rw [hx] at hv; simp at hv
    | some x =>
      rw [hx] at hv
      have := (List.getElem?_eq_some_iff.1 hv).1
      rwa [he x (List.mem_of_getElem? hx)] at this
  rw [← flatMap_get enc sz xs he i j hj] at hv
  rw [World.cell?_alloc_mark, Nat.zero_add]
  simpa using hv

theorem Els.litAt {α : Type} (w : World) (e sz g B : Nat) (enc : α → List Value) (xs : List α) (cs : Array Value) (hc : cs = (xs.flatMap enc).toArray) (he : ∀ x ∈ xs, (enc x).length = sz) (hg : g = w.heap.size) (hB : w.heap.size + 1 ≤ B) :
    Els (w.alloc (.cells cs e)) B (some ⟨g, 0, none⟩) sz enc xs := by
  subst hg
  exact (Els.lit w e sz enc xs cs hc he).mono hB

/-- 0, 1, 2 .. up to n; and 1, 2, 3 .. -/
def upto (o n : Nat) : List Int := (List.range n).map fun i : Nat => ((i + o : Nat) : Int)
theorem upto_get (o n k : Nat) (h : k < (upto o n).length) : (upto o n)[k] = ((k + o : Nat) : Int) := by simp [upto]
theorem upto_len (o n : Nat) : (upto o n).length = n := by simp [upto]
theorem one_i (xs : List Int) : ∀ x ∈ xs, (ei64 x).length = 1 := fun _ _ => rfl

def kinds (g : Nat) : List (SL Int) := [⟨some ⟨g, 0, none⟩, 2, upto 1 2⟩, ⟨some ⟨g + 1, 0, none⟩, 3, upto 1 3⟩, ⟨some ⟨g + 2, 0, none⟩, 5, upto 1 5⟩, ⟨some ⟨g + 3, 0, none⟩, 3, upto 1 3⟩, ⟨some ⟨g + 4, 0, none⟩, 5, upto 1 5⟩, ⟨some ⟨g + 5, 0, none⟩, 3, upto 1 3⟩]
def lims : List Int := [65536, 2147483647, 256, 1000, 40, 100, 12, 8, 100, 1000000, 5, 200, 200, 200, 200, 100, 200, 50, 500, 200, 1000, 3000, 300]

theorem kinds_len (g : Nat) : (kinds g).length = 6 := rfl
theorem kinds_xs (g k : Nat) (h : k < (kinds g).length) : ∃ m, m ≤ 5 ∧ ((kinds g)[k]).xs = upto 1 m := by
  match k, h with
  | 0, _ => exact ⟨2, by omega, rfl⟩
  | 1, _ => exact ⟨3, by omega, rfl⟩
  | 2, _ => exact ⟨5, by omega, rfl⟩
  | 3, _ => exact ⟨3, by omega, rfl⟩
  | 4, _ => exact ⟨5, by omega, rfl⟩
  | 5, _ => exact ⟨3, by omega, rfl⟩
theorem inner_ok (w : World) (o : Array Value) (e : TypeId) : ∀ u ∈ kinds w.heap.size, Els (((((((w.alloc (.cells ((upto 1 2).flatMap ei64).toArray 3)).alloc (.cells ((upto 1 3).flatMap ei64).toArray 3)).alloc (.cells ((upto 1 5).flatMap ei64).toArray 3)).alloc (.cells ((upto 1 3).flatMap ei64).toArray 3)).alloc (.cells ((upto 1 5).flatMap ei64).toArray 3)).alloc (.cells ((upto 1 3).flatMap ei64).toArray 3)).alloc (.cells o e)) (w.heap.size + 7) u.a 1 ei64 u.xs := by
  have step : ∀ (W : World) (m : Nat), Els (W.alloc (.cells ((upto 1 m).flatMap ei64).toArray 3)) (W.heap.size + 1) (some ⟨W.heap.size, 0, none⟩) 1 ei64 (upto 1 m) := fun W m => Els.lit W 3 1 ei64 (upto 1 m) _ rfl (one_i _)
  intro u hu
  simp only [kinds, List.mem_cons, List.not_mem_nil, or_false] at hu
  rcases hu with rfl | rfl | rfl | rfl | rfl | rfl
  · exact ((((((((step w 2).lt_some _ (by simp)).lt_some _ (by simp)).lt_some _ (by simp)).lt_some _ (by simp)).lt_some _ (by simp)).lt_some _ (by simp))).mono (by omega)
  · have h := step (w.alloc (.cells ((upto 1 2).flatMap ei64).toArray 3)) 3
    simp only [World.size_alloc] at h
    exact ((((((h.lt_some _ (by simp)).lt_some _ (by simp)).lt_some _ (by simp)).lt_some _ (by simp)).lt_some _ (by simp))).mono (by omega)
  · have h := step ((w.alloc (.cells ((upto 1 2).flatMap ei64).toArray 3)).alloc (.cells ((upto 1 3).flatMap ei64).toArray 3)) 5
    simp only [World.size_alloc] at h
    exact (((((h.lt_some _ (by simp)).lt_some _ (by simp)).lt_some _ (by simp)).lt_some _ (by simp))).mono (by omega)
  · have h := step (((w.alloc (.cells ((upto 1 2).flatMap ei64).toArray 3)).alloc (.cells ((upto 1 3).flatMap ei64).toArray 3)).alloc (.cells ((upto 1 5).flatMap ei64).toArray 3)) 3
    simp only [World.size_alloc] at h
    exact ((((h.lt_some _ (by simp)).lt_some _ (by simp)).lt_some _ (by simp))).mono (by omega)
  · have h := step ((((w.alloc (.cells ((upto 1 2).flatMap ei64).toArray 3)).alloc (.cells ((upto 1 3).flatMap ei64).toArray 3)).alloc (.cells ((upto 1 5).flatMap ei64).toArray 3)).alloc (.cells ((upto 1 3).flatMap ei64).toArray 3)) 5
    simp only [World.size_alloc] at h
    exact (((h.lt_some _ (by simp)).lt_some _ (by simp))).mono (by omega)
  · have h := step (((((w.alloc (.cells ((upto 1 2).flatMap ei64).toArray 3)).alloc (.cells ((upto 1 3).flatMap ei64).toArray 3)).alloc (.cells ((upto 1 5).flatMap ei64).toArray 3)).alloc (.cells ((upto 1 3).flatMap ei64).toArray 3)).alloc (.cells ((upto 1 5).flatMap ei64).toArray 3)) 3
    simp only [World.size_alloc] at h
    exact ((h.lt_some _ (by simp))).mono (by omega)
set_option maxHeartbeats 1000000 in
set_option maxRecDepth 20000 in
theorem walk (w : World) :
    Calls Try.prog 3 #[] w fun e w' => e = .returned (.bool true) ∧ Below w.heap.size w w' := by
  go_enter Try.func3, Try.ntmps3
  go_wp2_with fail
  go_loopw [1, 2, 12] (fun _ _ i wr => ∃ k : Nat, k ≤ 11 ∧ i = .int .i64 k ∧ Hid (Els wr (w.heap.size + 1) (some ⟨w.heap.size, 0, none⟩) 1 ei64 (upto 0 11) ∧ Below w.heap.size w wr ∧ w.heap.size < wr.heap.size)) (fun _ _ i _ => 11 - (intOf i).toNat)
  case atStart => exact ⟨0, by omega, rfl, Els.lit w _ 1 ei64 (upto 0 11) _ rfl (one_i _), below_lit _ _, by simp⟩
  case round =>
    obtain ⟨k, hk, rfl, hI⟩ := hrel
    by_cases hlt : k < 11
    · obtain ⟨b, o, he, hb, hc⟩ := hI.out.1.i64 k (by simpa [upto] using hlt)
      rw [upto_get] at hc
      simp only [Option.some.injEq, Addr.mk.injEq, and_true] at he
      obtain ⟨rfl, rfl⟩ := he
      rw [Nat.zero_add, Nat.add_zero] at hc
      have HI := PLift.up hI.out
      clear hI hb
      go_wp2_with fail
      go_roundw
      case rel => exact ⟨k + 1, by omega, by go_num, HI.down⟩
      case measure => simp [intOf]; omega
    · have HI := PLift.up hI.out.2
      clear hI
      obtain rfl : k = 11 := by omega
      go_wp2_with fail
      go_loopw [3, 4, 23] (fun _ _ i w2 => ∃ k : Nat, k ≤ 4 ∧ i = .int .i64 k ∧ Hid (Els w2 (wr.heap.size + 1) (some ⟨wr.heap.size, 0, none⟩) 1 ei64 (upto 0 4) ∧ Below w.heap.size w w2 ∧ wr.heap.size < w2.heap.size)) (fun _ _ i _ => 4 - (intOf i).toNat)
      case atStart => exact ⟨0, by omega, rfl, Els.lit wr _ 1 ei64 (upto 0 4) _ rfl (one_i _), HI.down.1.alloc HI.down.1.size _, by simp⟩
      case round =>
        obtain ⟨k, hk, rfl, hI⟩ := hrel
        by_cases hlt : k < 4
        · obtain ⟨b, o, he, hb, hc⟩ := hI.out.1.i64 k (by simpa [upto] using hlt)
          rw [upto_get] at hc
          simp only [Option.some.injEq, Addr.mk.injEq, and_true] at he
          obtain ⟨rfl, rfl⟩ := he
          rw [Nat.zero_add, Nat.add_zero] at hc
          have HI2 := PLift.up hI.out
          clear hI hb
          go_wp2_with fail
          go_roundw
          case rel => exact ⟨k + 1, by omega, by go_num, HI2.down⟩
          case measure => simp [intOf]; omega
        · have HI2 := PLift.up hI.out.2
          clear hI HI
          obtain rfl : k = 4 := by omega
          obtain ⟨v, rfl⟩ : ∃ v : World, v = wr := ⟨_, rfl⟩
          go_wp2_with fail
          go_loopw [6, 7, 8, 40, 44, 45, 46] (fun _ _ _ i _ _ _ w3 => ∃ k : Nat, k ≤ 6 ∧ i = .int .i64 k ∧ Hid (Els w3 (v.heap.size + 7) (some ⟨v.heap.size + 6, 0, none⟩) 1 SL.enc (kinds v.heap.size) ∧ (∀ u ∈ kinds v.heap.size, Els w3 (v.heap.size + 7) u.a 1 ei64 u.xs) ∧ Below w.heap.size w w3)) (fun _ _ _ i _ _ _ _ => 6 - (intOf i).toNat)
          case atStart =>
            refine ⟨0, by omega, rfl, ?_, ?_, ?_⟩
            · exact Els.litAt _ _ 1 _ _ SL.enc (kinds v.heap.size) _ rfl (fun _ _ => rfl) (by simp only [World.size_alloc]) (by simp only [World.size_alloc]; omega)
            · exact inner_ok v _ _
            · have h := HI2.down.1
              have h2 := h.size
              go_grown
          case round =>
            obtain ⟨k, hk, rfl, hI⟩ := hrel
            by_cases hlt : k < 6
            · obtain ⟨b, o, he, hb, hc⟩ := hI.out.1.get k hlt
              have hc := hc 0 _ rfl
              obtain ⟨m, hm5, hmx⟩ := kinds_xs v.heap.size k hlt
              have hin := hI.out.2.1 _ (List.getElem_mem hlt)
              simp only [Option.some.injEq, Addr.mk.injEq, and_true] at he
              obtain ⟨rfl, rfl⟩ := he
              simp only [Nat.mul_one, Nat.add_zero, Nat.zero_add, SL.val] at hc
              generalize (kinds v.heap.size)[k] = u at *
              obtain ⟨ua, uc, xs⟩ := u
              simp only at hmx hin hc
              subst hmx
              rw [upto_len] at hc
              have HI := PLift.up hI.out
              have HIN := PLift.up hin
              clear hI hb hin
              go_wp2_with fail
              go_loop [7, 8, 46] (fun _ _ i => ∃ j : Nat, j ≤ m ∧ i = .int .i64 j) (fun _ _ i => m - (intOf i).toNat)
              case atStart => exact ⟨0, by omega, rfl⟩
              case round =>
                obtain ⟨j, hj, rfl⟩ := hrel
                by_cases hlt2 : j < m
                · obtain ⟨b2, o2, rfl, hb2, hc2⟩ := HIN.down.i64 j (by simpa [upto] using hlt2)
                  rw [upto_get] at hc2
                  have hne : (((j + 1 : Nat) : Int) == (j : Int) + 1) = true := by simp
                  clear hb2
                  go_wp2_with fail
                  go_round
                  case rel => exact ⟨j + 1, by omega, by go_num⟩
                  case measure => simp [intOf]; omega
                · go_wp2_with fail
                  go_roundw
                  case rel => exact ⟨k + 1, by omega, by go_num, HI.down⟩
                  case measure => simp [intOf]; omega
            · have HI := PLift.up hI.out.2.2
              clear hI HI2
              obtain ⟨v2, rfl⟩ : ∃ v2 : World, v2 = wr := ⟨_, rfl⟩
              go_wp2_with fail
              refine (equal_i64 _ _ 23 23 (v2.heap.size + 2) lims lims _ ((Els.lit v2 3 1 ei64 lims _ rfl (one_i _)).lt_some _ (by simp) |>.mono (by omega)) ?_ ?_ (by decide) (by decide)).mono ?_
              · exact Els.litAt _ _ 1 _ _ ei64 lims _ rfl (one_i _) (by simp only [World.size_alloc]) (by simp only [World.size_alloc]; omega)
              · simp only [World.size_alloc]; omega
              rintro e w9 ⟨rfl, hb9⟩
              rw [decide_eq_true rfl]
              have HB9 := PLift.up hb9
              clear hb9
              go_wp2_with fail
              go_ret
              refine ⟨rfl, ?_⟩
              have h := HI.down
              have h2 := h.size
              have h3 := HB9.down
              exact Below.trans (b := (v2.alloc _).alloc _) (by go_grown) (h3.mono (by simp only [World.size_alloc]; omega))
theorem own : ownKnob Try.prog.godebug = none := by kernel_rfl
theorem laidOut : laidOutB Try.prog = true := by kernel_rfl
set_option maxRecDepth 100000 in
theorem lifted (os : Os) (started : os.Started) (H : Type) (enc : TypeId × Value → H) :
    ReturnsInHanded {} Try.checked os 3 .any (Rows.namesSpec.pre6 enc Try.prog Try.f3 Rows.namesRow.domain false) (Rows.namesSpec.post enc Try.prog Try.f3 false true false false) := by
  refine returnsInHanded_of_change_sized (C := Try.checked) own started (by kernel_rfl) Try.func3
    (ChangeSpec.witness6 (enc := enc) (C := Try.checked) false ⟨#[], #[], []⟩ 8 (by kernel_rfl) (by kernel_rfl) (by kernel_rfl) (by kernel_rfl)) ?_
  intro W base args ds gs before hval0 hW hcnd hsz0 _
  have hval : ∀ (j : Nat) t v, Try.f3.params[j]? = some t → args[j]? = some v → Value.okWide Try.prog W .any base t v := hval0
  have hW' := hW
  obtain ⟨p, q, hA0, hV, rfl, hfz, hnd⟩ := hW
  have hA : DataW.TrodAll enc Try.prog W 0 (fun _ => true) true Try.f3.params.toList args.toList ds p := hA0
  rw [Try.params3] at hA hval hsz0
  obtain ⟨hargs, rfl, rfl⟩ := trodAll_nil hA
  obtain rfl : args = #[] := by cases args; simp_all
  obtain ⟨rfl, rfl⟩ := trodVars_none hV
  clear hA0 hval0
  refine (walk  W ).mono fun e W' ⟨he, bel⟩ => ?_
  subst he
  exact ⟨_, rfl, _, _, _, [], _, [], hW', trodAll_mk1 (shut_bool Try.underlying4 _), trodAll_mk0, rfl, bel.frame _, fun h => by cases h⟩
theorem over : Rows.namesRow.holds Try.pinned (OpenSpec.ofChange Rows.namesSpec) :=
  OpenClaim.holds_of_wide 3 Try.f3 rfl rfl rfl rfl rfl rfl rfl ⟨rfl, rfl, rfl, rfl, rfl⟩ rfl rfl rfl rfl rfl (by kernel_rfl) Try.func3 (by kernel_rfl)
    (of_decide_eq_true (by kernel_rfl)) (by unfold Func.isWrapper; first | (rw [if_pos (by decide +kernel)]; kernel_rfl) | (rw [if_neg (by decide +kernel)]; exact ⟨rfl, rfl⟩))
    (fun os started H enc _ => lifted os started H enc)
theorem proved : Rows.NamesSaid := over
#print axioms proved
end Go.Proofs.Ytemogefcbemjfaa.names
