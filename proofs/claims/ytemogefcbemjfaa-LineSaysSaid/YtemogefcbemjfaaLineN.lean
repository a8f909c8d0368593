/- Package line: cells that are not near. -/
import Derived.Test.YtemogefcbemjfaaLineW
namespace Go.Proofs.Ytemogefcbemjfaa
open Go.RowKit
set_option maxHeartbeats 1000000 in
theorem apart_no (a b : Cel) (ha : I64 a.x ∧ I64 a.y) (hb : I64 b.x ∧ I64 b.y) (h : nearB a = false ∨ nearB b = false) (w : World) :
    Calls Try.prog 55 #[a.val, b.val] w fun e w' => e = .returned (.tuple #[.int .i64 0, .int .i64 0, .int .i64 1]) ∧ Below w.heap.size w w' := by
  have N1 := PLift.up (near_any a ha.1 ha.2); have N2 := PLift.up (near_any b hb.1 hb.2)
  simp only [Cel.val] at *
  by_cases h1 : nearB a = true
  · have h2 : nearB b = false := by rcases h with h | h; · rw [h1] at h; simp at h
                                    · exact h
    rw [h1] at N1; rw [h2] at N2
    clear ha hb h h1 h2
    go_enter Try.func55, Try.ntmps55
    go_wp2_with fail
    refine (N1.down _).mono ?_
    rintro e w1 ⟨rfl, rfl⟩
    go_wp2_with fail
    refine (N2.down _).mono ?_
    rintro e w1 ⟨rfl, rfl⟩
    go_wp2_with fail
    go_returns
    exact ⟨rfl, by go_grown⟩
  · have h1 : nearB a = false := by simpa using h1
    rw [h1] at N1
    clear ha hb h h1 N2
    go_enter Try.func55, Try.ntmps55
    go_wp2_with fail
    refine (N1.down _).mono ?_
    rintro e w1 ⟨rfl, rfl⟩
    go_wp2_with fail
    go_returns
    exact ⟨rfl, by go_grown⟩
set_option maxHeartbeats 1000000 in
theorem cells_no (a b : Cel) (ha : I64 a.x ∧ I64 a.y) (hb : I64 b.x ∧ I64 b.y) (h : nearB a = false ∨ nearB b = false) (w : World) :
    Calls Try.prog 56 #[a.val, b.val] w fun e w' => e = .returned (.tuple #[.slice none 0 0, .int .i64 1]) ∧ Below w.heap.size w w' := by
  have N1 := PLift.up (near_any a ha.1 ha.2); have N2 := PLift.up (near_any b hb.1 hb.2)
  simp only [Cel.val] at *
  by_cases h1 : nearB a = true
  · have h2 : nearB b = false := by rcases h with h | h; · rw [h1] at h; simp at h
                                    · exact h
    rw [h1] at N1; rw [h2] at N2
    clear ha hb h h1 h2
    go_enter Try.func56, Try.ntmps56
    go_wp2_with fail
    refine (N1.down _).mono ?_
    rintro e w1 ⟨rfl, rfl⟩
    go_wp2_with fail
    refine (N2.down _).mono ?_
    rintro e w1 ⟨rfl, rfl⟩
    go_wp2_with fail
    go_returns
    exact ⟨rfl, by go_grown⟩
  · have h1 : nearB a = false := by simpa using h1
    rw [h1] at N1
    clear ha hb h h1 N2
    go_enter Try.func56, Try.ntmps56
    go_wp2_with fail
    refine (N1.down _).mono ?_
    rintro e w1 ⟨rfl, rfl⟩
    go_wp2_with fail
    go_returns
    exact ⟨rfl, by go_grown⟩
end Go.Proofs.Ytemogefcbemjfaa
