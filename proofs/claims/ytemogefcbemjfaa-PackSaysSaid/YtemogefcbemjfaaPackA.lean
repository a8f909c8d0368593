/- Package pack: GetAll; the reference's UnpackedAll. -/
import Derived.Test.YtemogefcbemjfaaPackU
namespace Go.Proofs.Ytemogefcbemjfaa
open Go.RowKit
/-- n numbers more are read. -/
def gaF : Nat → ByteArray → List Int → List Int × Int
  | 0, s, out => if s = ⟨#[]⟩ then (out, 0) else ([], 4)
  | n + 1, s, out => if (getR s).2.2 = 0 then gaF n (getR s).2.1 (out ++ [unfN (getR s).1]) else ([], (getR s).2.2)
def gaR (s : ByteArray) : List Int × Int :=
  if (getR s).2.2 = 0 then (if (getR s).1 ≤ 1000 then gaF (getR s).1 (getR s).2.1 [] else ([], 2)) else ([], (getR s).2.2)
theorem getR_lt (s : ByteArray) : (getR s).1 < 18446744073709551616 ∧ (getR s).2.1.size ≤ s.size ∧ 0 ≤ (getR s).2.2 ∧ (getR s).2.2 ≤ 4 := by
  obtain ⟨e, r, hE, h1, h2⟩ := ends_any s
  rw [hE.res]
  have hle := hE.le
  by_cases he : e < s.size
  · rw [h1 he]
    split
    · refine ⟨Nat.mod_lt _ (by decide), ?_, by simp, by simp⟩
      simp only [ByteArray.size_extract]; omega
    · exact ⟨by decide, Nat.zero_le _, by simp, by simp⟩
  · rw [h2 (by omega)]
    refine ⟨by simp, Nat.zero_le _, ?_, ?_⟩ <;> (simp only; split <;> omega)
theorem elT_i64' : ElT Try.prog 24 3 1 8 (.int .i64 0) := ElT.mk' Try.underlying24 (by kernel_rfl) rfl (by decide)
theorem str_empty (s : ByteArray) : (s = ⟨#[]⟩) ↔ s.toList = [] := by
  rw [ByteArray.toList_eq]
  constructor
  · rintro rfl; rfl
  · intro h; obtain ⟨⟨l⟩⟩ := s; simp at h; subst h; rfl
theorem own_slice {w : World} {base e sz n : Nat} {v : Value} {xs : List Value} (h : w.ownsRow base e sz v n xs) : ∃ a c, v = .slice a n c := by
  rcases h.2 with ⟨rfl, rfl⟩ | ⟨g, cap, cur, rfl, _⟩
  · exact ⟨none, 0, rfl⟩
  · exact ⟨_, _, rfl⟩
theorem own_below {w w' : World} {base e sz n : Nat} {v : Value} {xs : List Value} (h : w.ownsRow base e sz v n xs) (hb : Below w.heap.size w w') : w'.ownsRow base e sz v n xs := by
  refine ⟨h.1, ?_⟩
  rcases h.2 with ⟨h1, h2⟩ | ⟨g, cap, cur, h1, h2, h3, h4⟩
  · exact .inl ⟨h1, h2⟩
  · exact .inr ⟨g, cap, cur, h1, h2, (hb.block g (Array.getElem?_eq_some_iff.1 h3).1).trans h3, h4⟩
def lenOf : Value → Nat | .slice _ n _ => n | _ => 0
set_option maxHeartbeats 2000000 in
set_option maxRecDepth 20000 in
theorem getAll_any (s : ByteArray) (w : World) (hs : s.size ≤ 140737488351232) :
    Calls Try.prog 65 #[.string s] w fun e w' => (∃ v, e = .returned (.tuple #[v, .int .i64 (gaR s).2]) ∧ ∃ n, w'.ownsRow w.heap.size 3 1 v n ((gaR s).1.flatMap ei64)) ∧ Below w.heap.size w w' := by
  have P := PLift.up (get_any s w hs)
  have hgl := getR_lt s
  obtain ⟨r, hr⟩ : ∃ r, r = gaR s := ⟨_, rfl⟩
  rw [← hr]
  unfold gaR at hr
  obtain ⟨R, hR⟩ : ∃ R, R = getR s := ⟨_, rfl⟩
  rw [← hR] at P hgl hr
  obtain ⟨n, s1, e1⟩ := R
  simp only at P hgl hr
  clear hR
  by_cases h0 : e1 = 0
  · subst h0
    rw [if_pos rfl] at hr
    by_cases hn : n ≤ 1000
    · rw [if_pos hn] at hr
      have HR := PLift.up hr
      clear hr
      go_enter Try.func65, Try.ntmps65
      go_wp2_with fail
      refine P.down.mono ?_
      rintro e w1 ⟨rfl, hb1⟩
      have B1 := PLift.up hb1
      clear hb1 P
      go_wp2_with fail
      go_loopw [0, 6, 24] (fun sv v iv wr => ∃ (k : Nat) (t : ByteArray) (out : List Int), k ≤ n ∧ iv = .int .u64 k ∧ sv = .string t ∧ t.size ≤ 140737488351232 ∧ Hid (gaF (n - k) t out = gaF n s1 [] ∧ wr.ownsRow w.heap.size 3 1 v k (out.flatMap ei64) ∧ Below w.heap.size w wr)) (fun _ _ iv _ => n - (intOf iv).toNat)
      case atStart => exact ⟨0, s1, [], by omega, rfl, rfl, by omega, rfl, ⟨by simp, .inl ⟨rfl, rfl⟩⟩, B1.down⟩
      case round =>
        obtain ⟨k, t, out, hk, rfl, rfl, ht, hI⟩ := hrel
        have hB := hI.out.2.2.size
        by_cases hlt : k < n
        · have Q := PLift.up (get_any t wr ht)
          have hql := getR_lt t
          have hst : gaF (n - k) t out = if (getR t).2.2 = 0 then gaF (n - (k + 1)) (getR t).2.1 (out ++ [unfN (getR t).1]) else ([], (getR t).2.2) := by
            rw [show n - k = (n - (k + 1)) + 1 from by omega]; rfl
          obtain ⟨R2, hR2⟩ : ∃ R, R = getR t := ⟨_, rfl⟩
          rw [← hR2] at Q hql hst
          obtain ⟨x, t', e2⟩ := R2
          simp only at Q hql hst
          clear hR2
          have HI := PLift.up hI.out
          clear hI
          by_cases h2 : e2 = 0
          · subst h2
            rw [if_pos rfl] at hst
            have HST := PLift.up hst
            clear hst
            go_wp2_with fail
            refine Q.down.mono ?_
            rintro e w2 ⟨rfl, hb2⟩
            have HO2 := PLift.up (own_below HI.down.2.1 hb2)
            have B2 := PLift.up (HI.down.2.2.trans (hb2.mono hB))
            have hB2 := B2.down.size
            clear hb2 Q
            go_wp2_with fail
            refine (unfold_any x hql.1 _).mono ?_
            rintro e w2 ⟨rfl, rfl⟩
            generalize hu : unfN x = u
            have HU := PLift.up hu
            clear hu
            go_wp2_with (at_builtin; refine wpApp _ rfl _ _ _ rfl w.heap.size _ _ _ elT_i64' _ k (out.flatMap ei64) rfl (HO2.down.alloc _) (some ⟨w2.heap.size, 0, none⟩) 1 1 [.int .i64 u] rfl ?_ ?_ ?_ ?_ ?_ ?_ ?_ ?_)
            · rfl
            · simp
            · intro ad had j y hy
              obtain rfl := Option.some.inj had
              match j, hy with
              | 0, hy => simp at hy; subst hy; simp [Addr.add_lit, go_sem]
              | j + 1, hy => simp at hy
            · simp [Value.oneCell']
            · simp only [maxLen]; omega
            · omega
            · simp; omega
            · intro v' w3 hown hg _
              have hbb : Below w.heap.size w w3 := (B2.down.alloc (by omega) _).grown hg (by simp; omega) (fun q hq => (HO2.down.lt q hq).1)
              obtain ⟨a', c', rfl⟩ := own_slice hown
              have HO := PLift.up hown
              have HBB := PLift.up hbb
              clear hown hbb hg
              go_wp2_with fail
              go_roundw
              case rel =>
                refine ⟨k + 1, t', out ++ [unfN x], by omega, by go_num, rfl, by omega, ?_, ?_, HBB.down⟩
                · rw [← HST.down]; exact HI.down.1
                · rw [List.flatMap_append, HU.down]; exact HO.down
              case measure => simp [intOf]; omega
          · rw [if_neg h2] at hst
            have hr2 := (hst.symm.trans HI.down.1).trans HR.down.symm
            have z1 : (e2 != 0) = true := by simpa using h2
            have z2 : (e2 == 0) = false := by simpa using h2
            subst hr2
            have B1W := PLift.up HI.down.2.2
            clear hst HR HI h2
            go_wp2_with fail
            refine Q.down.mono ?_
            rintro e w2 ⟨rfl, hb2⟩
            have HI2 := PLift.up (B1W.down.trans (hb2.mono hB))
            clear hb2 Q
            go_wp2_with fail
            go_returns
            exact ⟨⟨_, rfl, 0, ⟨by simp, .inl ⟨rfl, rfl⟩⟩⟩, HI2.down⟩
        · obtain rfl : k = n := by omega
          have hz := hI.out.1
          rw [Nat.sub_self] at hz
          have hz2 : gaF 0 t out = if t = ⟨#[]⟩ then (out, 0) else ([], 4) := rfl
          rw [hz2] at hz
          have HI := PLift.up hI.out
          clear hI hz2
          by_cases ht0 : t = ⟨#[]⟩
          · rw [if_pos ht0] at hz
            have hr2 := hz.trans HR.down.symm
            subst hr2 ht0
            clear HR
            go_wp2_with fail
            go_returns
            exact ⟨⟨_, rfl, _, HI.down.2.1⟩, HI.down.2.2⟩
          · rw [if_neg ht0] at hz
            have hr2 := hz.trans HR.down.symm
            subst hr2
            clear HR
            have hte : t.toList.isEmpty = false := by
              cases h : t.toList with
              | nil => exact absurd ((str_empty t).2 h) ht0
              | cons x l => rfl
            have hte2 : ¬ t.toList = [] := fun h => ht0 ((str_empty t).2 h)
            clear ht0
            go_wp2_with fail
            go_returns
            exact ⟨⟨_, rfl, 0, ⟨by simp, .inl ⟨rfl, rfl⟩⟩⟩, HI.down.2.2⟩
    · rw [if_neg hn] at hr
      subst hr
      go_enter Try.func65, Try.ntmps65
      go_wp2_with fail
      refine P.down.mono ?_
      rintro e w1 ⟨rfl, hb1⟩
      have B1 := PLift.up hb1
      clear hb1 P
      go_wp2_with fail
      go_returns
      exact ⟨⟨_, rfl, 0, ⟨by simp, .inl ⟨rfl, rfl⟩⟩⟩, B1.down⟩
  · rw [if_neg h0] at hr
    have z1 : (e1 != 0) = true := by simpa using h0
    have z2 : (e1 == 0) = false := by simpa using h0
    subst hr
    clear h0
    go_enter Try.func65, Try.ntmps65
    go_wp2_with fail
    refine P.down.mono ?_
    rintro e w1 ⟨rfl, hb1⟩
    have B1 := PLift.up hb1
    clear hb1 P
    go_wp2_with fail
    go_returns
    exact ⟨⟨_, rfl, 0, ⟨by simp, .inl ⟨rfl, rfl⟩⟩⟩, B1.down⟩
set_option maxHeartbeats 2000000 in
set_option maxRecDepth 20000 in
theorem unpackedAll_any (s : ByteArray) (w : World) (hs : s.size ≤ 140737488351232) :
    Calls Try.prog 66 #[.string s] w fun e w' => (∃ v, e = .returned (.tuple #[v, .int .i64 (gaR s).2]) ∧ ∃ n, w'.ownsRow w.heap.size 3 1 v n ((gaR s).1.flatMap ei64)) ∧ Below w.heap.size w w' := by
  have P := PLift.up (unpacked_any s w hs)
  have hgl := getR_lt s
  obtain ⟨r, hr⟩ : ∃ r, r = gaR s := ⟨_, rfl⟩
  rw [← hr]
  unfold gaR at hr
  obtain ⟨R, hR⟩ : ∃ R, R = getR s := ⟨_, rfl⟩
  rw [← hR] at P hgl hr
  obtain ⟨n, s1, e1⟩ := R
  simp only at P hgl hr
  clear hR
  by_cases h0 : e1 = 0
  · subst h0
    rw [if_pos rfl] at hr
    by_cases hn : n ≤ 1000
    · rw [if_pos hn] at hr
      have HR := PLift.up hr
      clear hr
      go_enter Try.func66, Try.ntmps66
      go_wp2_with fail
      refine P.down.mono ?_
      rintro e w1 ⟨rfl, hb1⟩
      have B1 := PLift.up hb1
      clear hb1 P
      go_wp2_with fail
      go_loopw [5, 7] (fun sv v wr => ∃ (k : Nat) (t : ByteArray) (out : List Int) (a : Option Addr) (c : Nat), k ≤ n ∧ v = .slice a k c ∧ sv = .string t ∧ t.size ≤ 140737488351232 ∧ Hid (gaF (n - k) t out = gaF n s1 [] ∧ wr.ownsRow w.heap.size 3 1 (.slice a k c) k (out.flatMap ei64) ∧ Below w.heap.size w wr)) (fun _ v _ => n - lenOf v)
      case atStart => exact ⟨0, s1, [], none, 0, by omega, rfl, rfl, by omega, rfl, ⟨by simp, .inl ⟨rfl, rfl⟩⟩, B1.down⟩
      case round =>
        obtain ⟨k, t, out, a, c, hk, rfl, rfl, ht, hI⟩ := hrel
        have hB := hI.out.2.2.size
        by_cases hlt : k < n
        · have Q := PLift.up (unpacked_any t wr ht)
          have hql := getR_lt t
          have hst : gaF (n - k) t out = if (getR t).2.2 = 0 then gaF (n - (k + 1)) (getR t).2.1 (out ++ [unfN (getR t).1]) else ([], (getR t).2.2) := by
            rw [show n - k = (n - (k + 1)) + 1 from by omega]; rfl
          obtain ⟨R2, hR2⟩ : ∃ R, R = getR t := ⟨_, rfl⟩
          rw [← hR2] at Q hql hst
          obtain ⟨x, t', e2⟩ := R2
          simp only at Q hql hst
          clear hR2
          have HI := PLift.up hI.out
          clear hI
          by_cases h2 : e2 = 0
          · subst h2
            rw [if_pos rfl] at hst
            have HST := PLift.up hst
            clear hst
            go_wp2_with fail
            refine Q.down.mono ?_
            rintro e w2 ⟨rfl, hb2⟩
            have HO2 := PLift.up (own_below HI.down.2.1 hb2)
            have B2 := PLift.up (HI.down.2.2.trans (hb2.mono hB))
            have hB2 := B2.down.size
            clear hb2 Q
            go_wp2_with fail
            refine (unfolded_any x hql.1 _).mono ?_
            rintro e w2 ⟨rfl, rfl⟩
            generalize hu : unfN x = u
            have HU := PLift.up hu
            clear hu
            go_wp2_with (at_builtin; refine wpApp _ rfl _ _ _ rfl w.heap.size _ _ _ elT_i64' _ k (out.flatMap ei64) rfl (HO2.down.alloc _) (some ⟨w2.heap.size, 0, none⟩) 1 1 [.int .i64 u] rfl ?_ ?_ ?_ ?_ ?_ ?_ ?_ ?_)
            · rfl
            · simp
            · intro ad had j y hy
              obtain rfl := Option.some.inj had
              match j, hy with
              | 0, hy => simp at hy; subst hy; simp [Addr.add_lit, go_sem]
              | j + 1, hy => simp at hy
            · simp [Value.oneCell']
            · simp only [maxLen]; omega
            · omega
            · simp; omega
            · intro v' w3 hown hg _
              have hbb : Below w.heap.size w w3 := (B2.down.alloc (by omega) _).grown hg (by simp; omega) (fun q hq => (HO2.down.lt q hq).1)
              obtain ⟨a', c', rfl⟩ := own_slice hown
              have HO := PLift.up hown
              have HBB := PLift.up hbb
              clear hown hbb hg
              go_wp2_with fail
              go_roundw
              case rel =>
                refine ⟨k + 1, t', out ++ [unfN x], a', c', by omega, rfl, rfl, by omega, ?_, ?_, HBB.down⟩
                · rw [← HST.down]; exact HI.down.1
                · rw [List.flatMap_append, HU.down]; exact HO.down
              case measure => simp [lenOf]; omega
          · rw [if_neg h2] at hst
            have hr2 := (hst.symm.trans HI.down.1).trans HR.down.symm
            have z1 : (e2 != 0) = true := by simpa using h2
            have z2 : (e2 == 0) = false := by simpa using h2
            subst hr2
            have B1W := PLift.up HI.down.2.2
            clear hst HR HI h2
            go_wp2_with fail
            refine Q.down.mono ?_
            rintro e w2 ⟨rfl, hb2⟩
            have HI2 := PLift.up (B1W.down.trans (hb2.mono hB))
            clear hb2 Q
            go_wp2_with fail
            go_returns
            exact ⟨⟨_, rfl, 0, ⟨by simp, .inl ⟨rfl, rfl⟩⟩⟩, HI2.down⟩
        · obtain rfl : k = n := by omega
          have hz := hI.out.1
          rw [Nat.sub_self] at hz
          have hz2 : gaF 0 t out = if t = ⟨#[]⟩ then (out, 0) else ([], 4) := rfl
          rw [hz2] at hz
          have HI := PLift.up hI.out
          clear hI hz2
          by_cases ht0 : t = ⟨#[]⟩
          · rw [if_pos ht0] at hz
            have hr2 := hz.trans HR.down.symm
            subst hr2 ht0
            clear HR
            go_wp2_with fail
            go_returns
            exact ⟨⟨_, rfl, _, HI.down.2.1⟩, HI.down.2.2⟩
          · rw [if_neg ht0] at hz
            have hr2 := hz.trans HR.down.symm
            subst hr2
            clear HR
            have hte : t.toList.isEmpty = false := by
              cases h : t.toList with
              | nil => exact absurd ((str_empty t).2 h) ht0
              | cons x l => rfl
            have hte2 : ¬ t.toList = [] := fun h => ht0 ((str_empty t).2 h)
            clear ht0
            go_wp2_with fail
            go_returns
            exact ⟨⟨_, rfl, 0, ⟨by simp, .inl ⟨rfl, rfl⟩⟩⟩, HI.down.2.2⟩
    · rw [if_neg hn] at hr
      subst hr
      go_enter Try.func66, Try.ntmps66
      go_wp2_with fail
      refine P.down.mono ?_
      rintro e w1 ⟨rfl, hb1⟩
      have B1 := PLift.up hb1
      clear hb1 P
      go_wp2_with fail
      go_returns
      exact ⟨⟨_, rfl, 0, ⟨by simp, .inl ⟨rfl, rfl⟩⟩⟩, B1.down⟩
  · rw [if_neg h0] at hr
    have z1 : (e1 != 0) = true := by simpa using h0
    have z2 : (e1 == 0) = false := by simpa using h0
    subst hr
    clear h0
    go_enter Try.func66, Try.ntmps66
    go_wp2_with fail
    refine P.down.mono ?_
    rintro e w1 ⟨rfl, hb1⟩
    have B1 := PLift.up hb1
    clear hb1 P
    go_wp2_with fail
    go_returns
    exact ⟨⟨_, rfl, 0, ⟨by simp, .inl ⟨rfl, rfl⟩⟩⟩, B1.down⟩
end Go.Proofs.Ytemogefcbemjfaa
