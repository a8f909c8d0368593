/- The abstract machine, part P: pieces given up to be read only; maps. -/
import Derived.Test.YtibknlfadoeglaaAmH
namespace Go.Proofs.Ytibknlfadoeglaa
set_option linter.all false
open Go.RowKit
def inZ : List Nat → Nat → Bool
  | [], _ => false
  | a :: r, i => if a = i then true else inZ r i
mutual
/-- A value where the pieces Z are given up: rows are read from then on. -/
def fz (Z : List Nat) (h : Nat → Chunk) : AV → AV
  | .undef => .undef
  | .c p => .c p
  | .agg xs => .agg (fzL Z h xs)
  | .tup xs => .tup (fzL Z h xs)
  | .own id => match inZ Z id with
    | false => .own id
    | true => match h id with | .row _ sz xs => .c (.sl sz xs) | _ => .undef
  | .view id o l => match inZ Z id with
    | false => .view id o l
    | true => match h id with | .row _ sz xs => .c (.sl sz ((xs.drop o).take l)) | _ => .undef
  | .ptr id i o => match inZ Z id with
    | false => .ptr id i o
    | true => .undef
  | .fel sz xs i o => .fel sz xs i o
  | .clo f a b => .clo f (fzL Z h a) (fzL Z h b)
  | .ifc t x => .ifc t (fz Z h x)
  | .map id => match inZ Z id with
    | false => .map id
    | true => .undef
  | .opt t x => .opt t (fz Z h x)
def fzL (Z : List Nat) (h : Nat → Chunk) : List AV → List AV
  | [] => []
  | x :: r => fz Z h x :: fzL Z h r
end
def fzF (Z : List Nat) (F : Nat → Prop) (β : Nat → Option Bind) (b : Nat) : Prop := F b ∨ ∃ id bd, inZ Z id = true ∧ β id = some bd ∧ bd.b = some b
def fzB (Z : List Nat) (β : Nat → Option Bind) (i : Nat) : Option Bind := match inZ Z i with | true => none | false => β i
def fzH (Z : List Nat) (h : Nat → Chunk) (i : Nat) : Chunk := match inZ Z i with | true => .dead | false => h i
section
variable {P : Program} {W : World} {N U F : Nat → Prop} {β : Nat → Option Bind} {h hT : Nat → Chunk} {w : World}
theorem fzB_some {Z : List Nat} {i : Nat} {bd : Bind} (h : fzB Z β i = some bd) : inZ Z i = false ∧ β i = some bd := by
  unfold fzB at h
  split at h
  · simp at h
  · rename_i hz; exact ⟨hz, h⟩
theorem fz_keeps (Z : List Nat) : Keeps w F w (fzF Z F β) := fun b hb => ⟨.inl hb, rfl⟩
theorem fz_row (M : MemOk W N U F β h w) (hs : ∀ id, hT id ≠ .dead → hT id = h id) {Z : List Nat} {id e sz : Nat} {xs : List (List PV)} (hn : inZ Z id = true) (hc : hT id = .row e sz xs) : ∃ bd, β id = some bd ∧ bd.sz = sz ∧ bd.n = xs.length ∧
    ((bd.b = none ∧ xs = [] ∧ bd.v = .slice none 0 0) ∨ ∃ g cap, bd.b = some g ∧ bd.v = .slice (some ⟨g, 0, none⟩) xs.length cap ∧ xs.length ≤ cap ∧ cap ≤ maxLen ∧ fzF Z F β g ∧ RelE w (fzF Z F β) g sz 0 xs) := by
  obtain ⟨bd, hb, h1, h2, h3, h4⟩ := M.get hs hc (by simp)
  refine ⟨bd, hb, h1, h2, ?_⟩
  rcases h4 with h4 | ⟨g, cap, cur, h5, h6, h7, h8, h9, h10, hE⟩
  · exact .inl h4
  · exact .inr ⟨g, cap, h5, h6, h8, h9, .inr ⟨id, bd, hn, hb, h5⟩, RelE.mono (fz_keeps Z) rfl _ _ _ hE⟩
theorem fz_own (M : MemOk W N U F β h w) (hs : ∀ id, hT id ≠ .dead → hT id = h id) {Z : List Nat} {id e sz : Nat} {xs : List (List PV)} (hn : inZ Z id = true) (hc : hT id = .row e sz xs) {v : Value} (hv : ∀ bd, β id = some bd → v = bd.v) : RelP w (fzF Z F β) (.sl sz xs) v := by
  obtain ⟨bd, hb, h1, h2, h4⟩ := fz_row M hs hn hc
  rw [hv bd hb]
  simp only [RelP]
  rcases h4 with ⟨_, rfl, h6⟩ | ⟨g, cap, h5, h6, h8, h9, hF, hE⟩
  · exact ⟨none, 0, h6, Nat.le_refl _, Nat.zero_le _, .inl rfl⟩
  · exact ⟨_, cap, h6, h8, h9, .inr ⟨g, 0, rfl, hF, hE⟩⟩
theorem fz_view (M : MemOk W N U F β h w) (hs : ∀ id, hT id ≠ .dead → hT id = h id) {Z : List Nat} {id e sz o l : Nat} {xs : List (List PV)} (hn : inZ Z id = true) (hc : hT id = .row e sz xs) {v : Value}
    (hv : ∀ bd, β id = some bd → ∃ a c, v = .slice a l c ∧ o + l ≤ bd.n ∧ l ≤ c ∧ c ≤ maxLen ∧ (l = 0 ∨ ∃ g, bd.b = some g ∧ a = some ⟨g, o * bd.sz, none⟩) ∧ (o = 0 → ∃ n, bd.v = .slice a n c)) : RelP w (fzF Z F β) (.sl sz ((xs.drop o).take l)) v := by
  obtain ⟨bd, hb, h1, h2, h4⟩ := fz_row M hs hn hc
  obtain ⟨a, c, rfl, k1, k2, k3, k4, _⟩ := hv bd hb
  have hl : ((xs.drop o).take l).length = l := by simp; omega
  simp only [RelP]
  refine ⟨a, c, by rw [hl], by omega, k3, ?_⟩
  rcases k4 with rfl | ⟨g, k5, k6⟩
  · exact .inl (by simp)
  · rcases h4 with ⟨h5, _⟩ | ⟨g', cap, h5, _, _, _, hF, hE⟩
    · rw [k5] at h5; simp at h5
    · rw [k5] at h5; cases h5
      refine .inr ⟨g, _, k6, hF, RelE.of fun i cs hi => ?_⟩
      rw [List.getElem?_take] at hi
      split at hi
      · rw [List.getElem?_drop] at hi
        have := hE.at _ _ hi
        rw [h1, ← Nat.add_mul]
        simpa using this
      · simp at hi
mutual
theorem fz_run (M : MemOk W N U F β h w) (hs : ∀ id, hT id ≠ .dead → hT id = h id) (Z : List Nat) : ∀ (x : AV) (v : Value), RelA U w F β x v → RelA U w (fzF Z F β) (fzB Z β) (fz Z hT x) v
  | .undef, v, hv => by simp only [fz, RelA]
  | .c p, v, hv => by simp only [fz, RelA] at hv ⊢; exact RelP.mono (fz_keeps Z) _ _ hv
  | .agg xs, v, hv => by
    simp only [fz, RelA] at hv ⊢
    obtain ⟨vs, rfl, k1, k2⟩ := hv
    exact ⟨vs, rfl, fzL_run M hs Z xs _ k1, k2⟩
  | .tup xs, v, hv => by
    simp only [fz, RelA] at hv ⊢
    obtain ⟨vs, rfl, k1⟩ := hv
    exact ⟨vs, rfl, fzL_run M hs Z xs _ k1⟩
  | .own id, v, hv => by
    simp only [fz]
    simp only [RelA] at hv
    split
    · simp only [RelA]; exact ⟨hv.1, hv.2.1, fun bd hb => hv.2.2 bd (fzB_some hb).2⟩
    · rename_i hz
      split
      · rename_i hc; simp only [RelA]; exact fz_own M hs hz hc hv.2.2
      · simp only [RelA]
  | .view id o l, v, hv => by
    simp only [fz]
    simp only [RelA] at hv
    split
    · simp only [RelA]; exact ⟨hv.1, hv.2.1, fun bd hb => hv.2.2 bd (fzB_some hb).2⟩
    · rename_i hz
      split
      · rename_i hc; simp only [RelA]; exact fz_view M hs hz hc hv.2.2
      · simp only [RelA]
  | .ptr id i o, v, hv => by
    simp only [fz]
    simp only [RelA] at hv
    split
    · simp only [RelA]; exact ⟨hv.1, hv.2.1, fun bd hb => hv.2.2 bd (fzB_some hb).2⟩
    · simp only [RelA]
  | .fel sz xs i o, v, hv => by
    simp only [fz, RelA] at hv ⊢
    obtain ⟨b, p, rfl, hb, hE⟩ := hv
    exact ⟨b, p, rfl, .inl hb, RelE.mono (fz_keeps Z) rfl _ _ _ hE⟩
  | .clo f a b, v, hv => by
    simp only [fz, RelA] at hv ⊢
    obtain ⟨fs, cs, rfl, k1, k2⟩ := hv
    exact ⟨fs, cs, rfl, fzL_run M hs Z a _ k1, fzL_run M hs Z b _ k2⟩
  | .ifc t x, v, hv => by
    simp only [fz, RelA] at hv ⊢
    obtain ⟨y, rfl, k1⟩ := hv
    exact ⟨y, rfl, fz_run M hs Z x y k1⟩
  | .map id, v, hv => by
    simp only [fz]
    simp only [RelA] at hv
    split
    · simp only [RelA]; exact ⟨hv.1, hv.2.1, fun bd hb => hv.2.2 bd (fzB_some hb).2⟩
    · simp only [RelA]
  | .opt t x, v, hv => by
    simp only [fz, RelA] at hv ⊢
    exact ⟨fun ht => fz_run M hs Z x v (hv.1 ht), hv.2⟩
theorem fzL_run (M : MemOk W N U F β h w) (hs : ∀ id, hT id ≠ .dead → hT id = h id) (Z : List Nat) : ∀ (xs : List AV) (vs : List Value), RelL U w F β xs vs → RelL U w (fzF Z F β) (fzB Z β) (fzL Z hT xs) vs
  | [], vs, hv => by simp only [fzL, RelL] at hv ⊢; exact hv
  | x :: r, vs, hv => by
    simp only [fzL, RelL] at hv ⊢
    obtain ⟨u, us, rfl, k1, k2⟩ := hv
    exact ⟨u, us, rfl, fz_run M hs Z x u k1, fzL_run M hs Z r us k2⟩
end
theorem fz_ext (Z : List Nat) : Ext U F β w U (fzF Z F β) (fzB Z β) w := ⟨fun _ h => h, fz_keeps Z, fun _ _ _ hb => (fzB_some hb).2⟩
theorem fz_mem (M : MemOk W N U F β h w) (Z : List Nat) : MemOk W N U (fzF Z F β) (fzB Z β) (fzH Z h) w := by
  refine ⟨M.size, M.os, M.tape, M.output, M.frame, fun b hb => ?_, fun id bd hb => M.used id bd (fzB_some hb).2, fun id hd => ?_, fun i j bi bj b hi hj => M.dis i j bi bj b (fzB_some hi).2 (fzB_some hj).2, fun i bd b hi hb => ?_⟩
  · rcases hb with hb | ⟨id, bd, _, h1, h2⟩
    · exact M.fin b hb
    · exact (M.off id bd b h1 h2).2.1
  · unfold fzH at hd ⊢
    cases hz : inZ Z id with
    | true => rw [hz] at hd; exact absurd rfl hd
    | false =>
      rw [hz] at hd
      obtain ⟨bd, hb, hk⟩ := M.ch id hd
      exact ⟨bd, by unfold fzB; rw [hz]; exact hb, hk.mono (fz_ext Z) fun _ _ => rfl⟩
  · obtain ⟨hz, hi⟩ := fzB_some hi
    obtain ⟨h1, h2, h3⟩ := M.off i bd b hi hb
    refine ⟨fun hf => ?_, h2, h3⟩
    rcases hf with hf | ⟨id, bd', hz', hb', hbb⟩
    · exact h1 hf
    · have := M.dis i id bd bd' b hi hb' hb hbb
      subst this
      rw [hz] at hz'; simp at hz'
def deadsOf (Z : List Nat) : List (Nat × Chunk) := Z.map fun i => (i, .dead)
theorem upd_deads (h : Nat → Chunk) : ∀ (Z : List Nat), upd h (deadsOf Z) = fzH Z h
  | [] => by funext i; simp [deadsOf, upd, fzH, inZ]
  | a :: r => by
    funext i
    have := congrFun (upd_deads h r) i
    simp only [deadsOf, List.map_cons, upd] at this ⊢
    unfold fzH inZ
    by_cases e : a = i
    · simp [e]
    · rw [if_neg e, if_neg e, this]; rfl
theorem upd_append (h : Nat → Chunk) : ∀ (xs ys : List (Nat × Chunk)), upd h (xs ++ ys) = upd (upd h ys) xs
  | [], ys => rfl
  | (k, c) :: r, ys => by
    funext i
    have := congrFun (upd_append h r ys) i
    simp only [List.cons_append, upd, this]
/-- An operation behind the giving up of pieces. -/
theorem StepTo.behind (M : MemOk W N U F β h w) (Z : List Nat) {m : Nat} {e : Eff} {v : Value} {w' : World} (S : StepTo W N U (fzF Z F β) (fzB Z β) (fzH Z h) w m e v w') : StepTo W N U F β h w m ⟨e.val, e.ups ++ deadsOf Z, e.fresh⟩ v w' := by
  obtain ⟨F', β', M', E', hr, hF⟩ := S
  refine ⟨F', β', ?_, (fz_ext Z).trans E', hr, fun b hb => ?_⟩
  · rw [upd_append, upd_deads]; exact M'
  · rcases hF b hb with h1 | h1
    · rcases h1 with h1 | ⟨id, bd, _, h2, h3⟩
      · exact .inl h1
      · exact .inr (M.off id bd b h2 h3).2.2
    · exact .inr h1
end
mutual
/-- The rows that a value names. -/
def rowsA (h : Nat → Chunk) : AV → List Nat
  | .agg xs => rowsL h xs
  | .own id => match h id with | .row _ _ _ => [id] | _ => []
  | .view id _ _ => match h id with | .row _ _ _ => [id] | _ => []
  | _ => []
def rowsL (h : Nat → Chunk) : List AV → List Nat
  | [] => []
  | x :: r => rowsA h x ++ rowsL h r
end
def fzEff (Z : List Nat) : Option (Prop × Eff) → Option (Prop × Eff)
  | some (φ, ⟨v, ups, fr⟩) => some (φ, ⟨v, ups ++ deadsOf Z, fr⟩)
  | none => none
end Go.Proofs.Ytibknlfadoeglaa
