/- VoteSays: whatever votes, players and number are handed in, Most, Check, Cast and Back answer what the document says. No condition. -/
import Derived.Test.YtibknlfadoeglaaVoI
import Derived.Test.YtibknlfadoeglaaAmO
import Derived.Test.YtibknlfadoeglaaRows
import Derived.Test.YtibknlfadoeglaaChecked
namespace Go.Proofs.Ytibknlfadoeglaa
set_option linter.all false
open Go.RowKit Go.ChangeShapes Go.WideShapes Go.ChangeAt
namespace voteSays
def vEnc (x : Nat × SL Nat) : List Value := [.int .u32 x.1, x.2.val]
set_option maxRecDepth 100000 in
theorem opU32 (w : World) : Opens Try.prog 23 1 w SL.enc (SLok w w.heap.size 1 4 e32 (fun n => n < 4294967296)) := Opens.slice Try.underlying23 (by kernel_rfl) (by decide) (by kernel_rfl) (Opens.u32 Try.underlying22)
set_option maxRecDepth 100000 in
theorem opVotes (w : World) : Opens Try.prog 25 2 w vEnc (fun x => x.1 < 4294967296 ∧ SLok w w.heap.size 1 4 e32 (fun n => n < 4294967296) x.2) :=
  (Opens.struct Try.underlying25 (by kernel_rfl) (OpensF.cons rfl rfl (Opens.u32 Try.underlying22) (OpensF.cons rfl rfl (opU32 w) OpensF.nil))).map (fun x => (x.1, x.2.1)) (fun _ => rfl) (fun _ h => ⟨h.1, h.2.1⟩)
theorem walk (x : Nat × SL Nat) (b a n : Int) (w : World) (h0 : x.1 < 4294967296 ∧ SLok w w.heap.size 1 4 e32 (fun n => n < 4294967296) x.2) (h1 : -9223372036854775808 ≤ b ∧ b ≤ 9223372036854775807) (h2 : -9223372036854775808 ≤ a ∧ a ≤ 9223372036854775807) (h3 : -9223372036854775808 ≤ n ∧ n ≤ 9223372036854775807) :
    Calls Try.prog 3 #[.agg (vEnc x).toArray, .int .i64 b, .int .i64 a, .int .i64 n] w fun e w' => e = .returned (.bool true) ∧ Below w.heap.size w w' := by
  have hl : x.2.xs.length ≤ 9223372036854775807 := by have h1 := h0.2.cap; have h2 := h0.2.max; unfold maxLen at h2; omega
  have S := law_s x.1 x.2.xs b a n h0.1 hl (fun s hs => (h0.2.each s hs).1) h1 h2 h3
  refine spec_law S (relL_cons (relA_agg (relL_cons (relI.2 rfl) (relL_cons (relA_c (rel_sl h0.2 ?_)) relL_nil)) ?_) (relL_cons (relI.2 rfl) (relL_cons (relI.2 rfl) (relL_cons (relI.2 rfl) relL_nil))))
  · intro y _ _
    refine ⟨rfl, fun j p u h1 h2 => ?_⟩
    cases j with
    | zero => simp [e32P, e32] at h1 h2; subst h1 h2; exact relP_v rfl
    | succ j => simp [e32P] at h1
  · intro v hv
    simp [vEnc, SL.val] at hv
    rcases hv with rfl | rfl <;> rfl
theorem own : ownKnob Try.prog.godebug = none := by kernel_rfl
theorem laidOut : laidOutB Try.prog = true := by kernel_rfl
set_option maxRecDepth 100000 in
theorem lifted (os : Os) (started : os.Started) (H : Type) (enc : TypeId × Value → H) :
    ReturnsInHanded {} Try.checked os 3 .any (Rows.voteSaysSpec.pre6 enc Try.prog Try.f3 Rows.voteSaysRow.domain false) (Rows.voteSaysSpec.post enc Try.prog Try.f3 false true false false) := by
  refine returnsInHanded_of_change_sized (C := Try.checked) own started (by kernel_rfl) Try.func3
    (ChangeSpec.witness6 (enc := enc) (C := Try.checked) false ⟨#[], #[.agg #[.int .u32 0, .slice none 0 0], .int .i64 0, .int .i64 0, .int .i64 0], []⟩ 8 (by kernel_rfl) (by kernel_rfl) (by kernel_rfl) (by kernel_rfl)) ?_
  intro W base args ds gs before hval0 hW hcnd hsz0 _
  have hval : ∀ (j : Nat) t v, Try.f3.params[j]? = some t → args[j]? = some v → Value.okWide Try.prog W .any base t v := hval0
  have hW' := hW
  obtain ⟨p, q, hA0, hV, rfl, hfz, hnd⟩ := hW
  have hA : DataW.TrodAll enc Try.prog W 0 (fun _ => true) true Try.f3.params.toList args.toList ds p := hA0
  rw [Try.params3] at hA hval hsz0
  obtain ⟨v0, vs0, d0, ds0, p0, q0, hargs, rfl, rfl, h0, r0⟩ := trodAll_cons hA
  obtain ⟨v1, vs1, d1, ds1, p1, q1, rfl, rfl, rfl, h1, r1⟩ := trodAll_cons r0
  obtain ⟨v2, vs2, d2, ds2, p2, q2, rfl, rfl, rfl, h2, r2⟩ := trodAll_cons r1
  obtain ⟨v3, vs3, d3, ds3, p3, q3, rfl, rfl, rfl, h3, r3⟩ := trodAll_cons r2
  obtain ⟨rfl, rfl, rfl⟩ := trodAll_nil r3
  obtain rfl : args = #[v0, v1, v2, v3] := by cases args; simp_all
  obtain ⟨rfl, rfl⟩ := trodVars_none hV
  have lt0 : ∀ x ∈ p0, x.block < W.heap.size := by obtain ⟨m, hm⟩ := h0; exact DataW.trod_lt m _ _ _ hm
  obtain ⟨x0, c0, ok0⟩ := Opens.arg (opVotes W) h0 hsz0 0 rfl rfl
  obtain rfl := arg_struct (hval 0 25 v0 rfl rfl) Try.underlying25 c0
  have lt1 : ∀ x ∈ p1, x.block < W.heap.size := by obtain ⟨m, hm⟩ := h1; exact DataW.trod_lt m _ _ _ hm
  obtain ⟨x1, c1, ok1⟩ := Opens.arg (Opens.i64 Try.underlying3) h1 hsz0 1 rfl rfl
  obtain rfl := arg_int Try.underlying3 (hval 1 3 v1 rfl rfl) c1
  have lt2 : ∀ x ∈ p2, x.block < W.heap.size := by obtain ⟨m, hm⟩ := h2; exact DataW.trod_lt m _ _ _ hm
  obtain ⟨x2, c2, ok2⟩ := Opens.arg (Opens.i64 Try.underlying3) h2 hsz0 2 rfl rfl
  obtain rfl := arg_int Try.underlying3 (hval 2 3 v2 rfl rfl) c2
  have lt3 : ∀ x ∈ p3, x.block < W.heap.size := by obtain ⟨m, hm⟩ := h3; exact DataW.trod_lt m _ _ _ hm
  obtain ⟨x3, c3, ok3⟩ := Opens.arg (Opens.i64 Try.underlying3) h3 hsz0 3 rfl rfl
  obtain rfl := arg_int Try.underlying3 (hval 3 3 v3 rfl rfl) c3
  clear hA0 hval0
  refine (walk x0 x1 x2 x3 W ok0 ok1 ok2 ok3).mono fun e W' ⟨he, bel⟩ => ?_
  subst he
  exact ⟨_, rfl, _, _, _, [], _, [], hW', trodAll_mk1 (shut_bool Try.underlying4 _), (trodAll_cons_mk (Below.trod laidOut (by kernel_rfl) (of_decide_eq_true (by kernel_rfl)) h0 bel lt0) (trodAll_cons_mk (Below.trod laidOut (by kernel_rfl) (of_decide_eq_true (by kernel_rfl)) h1 bel lt1) (trodAll_cons_mk (Below.trod laidOut (by kernel_rfl) (of_decide_eq_true (by kernel_rfl)) h2 bel lt2) (trodAll_cons_mk (Below.trod laidOut (by kernel_rfl) (of_decide_eq_true (by kernel_rfl)) h3 bel lt3) trodAll_mk0)))), rfl, bel.frame _, fun h => by cases h⟩
theorem over : Rows.voteSaysRow.holds Try.pinned (OpenSpec.ofChange Rows.voteSaysSpec) :=
  OpenClaim.holds_of_wide 3 Try.f3 rfl rfl rfl rfl rfl rfl rfl ⟨rfl, rfl, rfl, rfl, rfl⟩ rfl rfl rfl rfl rfl (by kernel_rfl) Try.func3 (by kernel_rfl)
    (of_decide_eq_true (by kernel_rfl)) (by unfold Func.isWrapper; first | (rw [if_pos (by decide +kernel)]; kernel_rfl) | (rw [if_neg (by decide +kernel)]; exact ⟨rfl, rfl⟩))
    (fun os started H enc _ => lifted os started H enc)
theorem proved : Rows.VoteSaysSaid := over
#print axioms proved
end voteSays
end Go.Proofs.Ytibknlfadoeglaa
