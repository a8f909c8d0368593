/- The abstract machine, part H: append; every operation that is no call of a function. -/
import Derived.Test.YtibknlfadoeglaaAmG
namespace Go.Proofs.Ytibknlfadoeglaa
set_option linter.all false
open Go.RowKit
section
variable {P : Program} {W : World} {N U F : Nat → Prop} {β : Nat → Option Bind} {h hT : Nat → Chunk} {w : World}
theorem relE_flat {b sz : Nat} : ∀ {xs : List (List PV)} {o : Nat}, RelE w F b sz o xs → RelC w F b o xs.flatten
  | [], _, _ => by simp [RelC]
  | x :: r, o, h => by
    simp only [RelE] at h
    have ih := relE_flat h.2.2
    rw [List.flatten_cons]
    refine RelC.of fun j y hy => ?_
    by_cases hj : j < x.length
    · rw [List.getElem?_append_left hj] at hy
      exact h.2.1.at j y hy
    · rw [List.getElem?_append_right (by omega)] at hy
      have := ih.at _ y hy
      rwa [h.1, show o + sz + (j - sz) = o + j from by omega] at this
theorem flat_len {sz : Nat} : ∀ {xs : List (List PV)}, (∀ cs ∈ xs, cs.length = sz) → xs.flatten.length = xs.length * sz
  | [], _ => by simp
  | x :: r, h => by
    rw [List.flatten_cons, List.length_append, h x (by simp), flat_len fun cs hc => h cs (by simp [hc]), List.length_cons, Nat.add_mul]; omega
theorem relE_unflat {b sz : Nat} : ∀ {xs : List (List PV)} {o : Nat}, (∀ cs ∈ xs, cs.length = sz) → RelC w F b o xs.flatten → RelE w F b sz o xs
  | [], _, _, _ => by simp [RelE]
  | x :: r, o, hl, h => by
    simp only [RelE]
    have hx := hl x (by simp)
    rw [List.flatten_cons] at h
    refine ⟨hx, RelC.of fun j y hy => ?_, relE_unflat (fun cs hc => hl cs (by simp [hc])) (RelC.of fun j y hy => ?_)⟩
    · exact h.at j y (by rw [List.getElem?_append_left (List.getElem?_eq_some_iff.1 hy).1]; exact hy)
    · have := h.at (sz + j) y (by rw [List.getElem?_append_right (by omega), hx]; simpa using hy)
      rwa [← Nat.add_assoc] at this
theorem run_app {P : Program} (w : World) (base t ty e size bytes : Nat) {z : Value} {i : TypeInfo} (ht : P.underlying t = some (.slice e)) (hi : P.info? e = some i) (hz : i.zero = some z) (hsize : i.size = size) (hby : i.bytes = bytes) (hzs : z.cells.size = size) (hsz : 0 < size) (v : Value) (n : Nat) (xs : List Value) (hown : w.ownsRow base e size v n xs)
    (a : Addr) (m c : Nat) (news : List Value) (hl : news.length = m * size) (hnews : ∀ j u, news[j]? = some u → w.cell? (a.add j) = some u) (h1 : ∀ u ∈ news, u.oneCell' = true)
    (h63 : n + m ≤ maxLen) (hbytes : (n + m) * bytes ≤ 140737488355328) (hbase : base ≤ w.heap.size) :
    ∃ v' w', (Builtin.append_ #[t, t] ty #[v, .slice (some a) m c]).run P w = .ok v' w' ∧ w'.ownsRow base e size v' (n + m) (xs ++ news) ∧ w.grownBy w' v.ownBlock ∧
      (v'.ownBlock = v.ownBlock ∨ ∀ q, v'.ownBlock = some q → w.heap.size ≤ q) := by
  obtain ⟨v', w', hr, h2, h3, h4⟩ := run_append_own (P := P) w base t ty e i z size bytes ht hi hz hsize hby hzs hsz v n xs hown a m c news hl hnews h1 h63 hbytes hbase
  refine ⟨v', w', hr, h2, h3, ?_⟩
  subst hsize
  subst hby
  have hsmall : n + m ≤ 9223372036854775807 := by simp only [maxLen] at h63; omega
  rcases hown.2 with ⟨rfl, rfl⟩ | ⟨g, cap, cur, rfl, hbg, hg, hnc, hcm, hcs, htake⟩
  · by_cases hm : m = 0
    · exact .inl (by rw [h4.2 ⟨rfl, hm⟩])
    · have hr2 := run_append_nil (P := P) w t ty e i z ht hi hz a m c news hl hnews (by omega) (by omega) (by simp only [Nat.zero_add] at hbytes; omega)
      rw [hr2] at hr
      cases hr
      exact .inr (fun q hq => by simp [Value.ownBlock] at hq; omega)
  · by_cases hroom : n + m ≤ cap
    · have hr2 := run_append_room (P := P) w t ty e i ht hi g n cap cur hg a m c news hl hnews h1 hroom (by rw [hl, hcs, ← Nat.add_mul]; exact Nat.mul_le_mul_right _ hroom)
      rw [hr2] at hr
      cases hr
      exact .inl rfl
    · have hr2 := run_append_grow (P := P) w t ty e i z ht hi hz ⟨g, 0, none⟩ n cap xs hown.1 (hown.cells (g := g) rfl) a m c news hl hnews (by omega) (by omega) (growslice_fits (by omega) hbytes)
      rw [hr2] at hr
      cases hr
      exact .inr (fun q hq => by simp [Value.ownBlock] at hq; omega)
theorem run_app0 {P : Program} (w : World) (t ty e : Nat) {i : TypeInfo} (ht : P.underlying t = some (.slice e)) (hi : P.info? e = some i) (a : Option Addr) (n c : Nat) (hn : n ≤ c) (b : Option Addr) (c' : Nat) :
    (Builtin.append_ #[t, t] ty #[.slice a n c, .slice b 0 c']).run P w = .ok (.slice a n c) w := by
  cases a <;> cases b <;> simp [Builtin.append_, run_underlying ht, sizeOf, typeInfo, hi, Builtin.lenOf, hn, Builtin.firstCells, loadCells, loadCellsFrom, storeCells]
theorem relC_of_vals {w' : World} {F' : Nat → Prop} {g : Nat} {ps : List PV} {vs : List Value} (hr : ∀ (j : Nat) (p : PV), ps[j]? = some p → ∃ u, vs[j]? = some u ∧ RelP w' F' p u) (hc : ∀ j u, vs[j]? = some u → w'.cell? ⟨g, j, none⟩ = some u) : RelC w' F' g 0 ps :=
  RelC.of fun j p hp => by
    obtain ⟨u, h1, h2⟩ := hr j p hp
    exact ⟨u, by simpa using hc j u h1, h2⟩
theorem app_run (M : MemOk W N U F β h w) (hs : ∀ id, hT id ≠ .dead → hT id = h id) {m : Nat} (hm : ¬ U m) {t ty' : TypeId} {s x : AV} {φ : Prop} {r : Eff} (he : appAV P hT m t s x = some (φ, r)) (hφ : φ) {sv xv : Value} (hsv : RelA U w F β s sv) (hxv : RelA U w F β x xv) :
    ∃ z w', (Builtin.append_ #[t, t] ty' #[sv, xv]).run P w = .ok z w' ∧ StepTo W N U F β h w m r z w' := by
  unfold appAV at he
  split at he
  · rename_i e _ _ _ _ ht
    obtain ⟨_, _, _, q2, q3, _⟩ := ty_kind ht
    have := kind_sl q3
    subst this
    split at he
    · rename_i d hd
      split at he
      · rename_i hcd
        simp only [Bool.and_eq_true] at hcd
        obtain ⟨i, z, k1, k2, k3, k4, k5, k6, k7⟩ := zero_info hd hcd.1.1 hcd.1.2
        have hby1 := Nat.le_of_ble_eq_true hcd.2
        split at he
        · rename_i ks xs sz ys hrow hsl
          simp only [Option.some.injEq, Prod.mk.injEq] at he
          obtain ⟨rfl, rfl⟩ := he
          obtain ⟨hsz, hbytes⟩ := hφ
          obtain ⟨xa, xc, rfl, hxl, _, hxE⟩ := slOf_run M hs hsl hxv
          have hlenb : xs.length + ys.length ≤ 140737488355328 := by
            have : (xs.length + ys.length) * 1 ≤ (xs.length + ys.length) * d.bytes := Nat.mul_le_mul_left _ hby1
            omega
          have hmax : xs.length + ys.length ≤ maxLen := by unfold maxLen; omega
          -- what is appended to
          have hA : ∃ K : Nat → Prop, ∃ cells : List Value, (∀ k, K k ↔ ∃ c, (k, c) ∈ ks) ∧ (∀ p ∈ ks, p.2 = Chunk.dead) ∧ ks.length ≤ 1 ∧ (∀ k, K k → U k) ∧
              w.ownsRow 0 e d.size sv xs.length cells ∧ (∀ cs ∈ xs, cs.length = d.size) ∧ (∀ (j : Nat) (p : PV), xs.flatten[j]? = some p → ∃ u, cells[j]? = some u ∧ RelP w F p u) ∧
              (∀ q, sv.ownBlock = some q → ∃ k bd, K k ∧ β k = some bd ∧ bd.b = some q) ∧ (∀ k bd b, K k → β k = some bd → bd.b = some b → sv.ownBlock = some b) := by
            have own : ∀ {id sz' : Nat} {zs : List (List PV)} {l : Nat} {bd : Bind}, hT id = .row e sz' zs → β id = some bd → ChOk U w F β bd (.row e sz' zs) → sz' = d.size → l ≤ zs.length → (∃ g cap, bd.b = some g ∧ bd.v = .slice (some ⟨g, 0, none⟩) zs.length cap ∧ sv = .slice (some ⟨g, 0, none⟩) l cap ∨ bd.b = none ∧ sv = .slice none 0 0 ∧ l = 0) → U id →
                ∃ K : Nat → Prop, ∃ cells : List Value, (∀ k, K k ↔ ∃ c, (k, c) ∈ [(id, Chunk.dead)]) ∧ (∀ p ∈ [(id, Chunk.dead)], p.2 = Chunk.dead) ∧ [(id, Chunk.dead)].length ≤ 1 ∧ (∀ k, K k → U k) ∧
              w.ownsRow 0 e d.size sv (zs.take l).length cells ∧ (∀ cs ∈ zs.take l, cs.length = d.size) ∧ (∀ (j : Nat) (p : PV), (zs.take l).flatten[j]? = some p → ∃ u, cells[j]? = some u ∧ RelP w F p u) ∧
              (∀ q, sv.ownBlock = some q → ∃ k bd, K k ∧ β k = some bd ∧ bd.b = some q) ∧ (∀ k bd b, K k → β k = some bd → bd.b = some b → sv.ownBlock = some b) := by
              intro id sz' zs l bd hc hb hk hsz' hl hv hU
              obtain ⟨h1, h2, h3, h4⟩ := hk
              subst hsz'
              refine ⟨fun k => k = id, ?_⟩
              have htl : (zs.take l).length = l := by simp; omega
              rcases hv with ⟨g, cap, ⟨g1, g2, rfl⟩ | ⟨g1, rfl, rfl⟩⟩
              · rcases h4 with ⟨h5, _⟩ | ⟨g', cap', cur, h5, h6, h7, h8, h9, h10, hE⟩
                · rw [g1] at h5; simp at h5
                · rw [g1] at h5; cases h5
                  rw [g2] at h6
                  simp only [Value.slice.injEq, true_and] at h6
                  subst h6
                  have hle : l * d.size ≤ cap * d.size := Nat.mul_le_mul_right _ (by omega)
                  refine ⟨cur.toList.take (l * d.size), by simp, by simp, by simp, by rintro k rfl; exact hU, ⟨by rw [htl, List.length_take, Array.length_toList, h10]; exact Nat.min_eq_left hle, .inr ⟨g, cap, cur, by rw [htl], Nat.zero_le _, h7, by omega, h9, h10, by rw [htl]⟩⟩, fun cs hc => h3 cs (List.mem_of_mem_take hc), fun j p hp => ?_, ?_, ?_⟩
                  · have hEl : RelE w F g d.size 0 (zs.take l) := RelE.of fun q cs hq => by
                      rw [List.getElem?_take] at hq
                      split at hq
                      · exact hE.at q cs hq
                      · simp at hq
                    obtain ⟨u, hu1, hu2⟩ := (relE_flat hEl).at j p hp
                    have hj : j < l * d.size := by
                      have := (List.getElem?_eq_some_iff.1 hp).1
                      rwa [flat_len (sz := d.size) (fun cs hc => h3 cs (List.mem_of_mem_take hc)), htl] at this
                    refine ⟨u, ?_, hu2⟩
                    rw [List.getElem?_take, if_pos hj]
                    simp only [World.cell?, h7, Nat.zero_add, Option.isSome_none, Bool.false_eq_true, if_false] at hu1
                    simpa using hu1
                  · intro q hq
                    simp only [Value.ownBlock, Option.some.injEq] at hq
                    subst hq
                    exact ⟨id, bd, rfl, hb, g1⟩
                  · rintro k bd' b rfl hb' hbb
                    rw [hb] at hb'; cases hb'
                    rw [g1] at hbb; cases hbb
                    rfl
              · refine ⟨[], by simp, by simp, by simp, by rintro k rfl; exact hU, by simpa using World.ownsRow_nil w 0 e d.size, by simp, by simp, by simp [Value.ownBlock], ?_⟩
                rintro k bd' b rfl hb' hbb
                rw [hb] at hb'; cases hb'
                rw [g1] at hbb; simp at hbb
            unfold rowOf at hrow
            split at hrow
            · rename_i id
              split at hrow
              · rename_i e' sz' zs hc
                split at hrow
                · rename_i heq
                  simp only [Bool.and_eq_true] at heq
                  have e1 := Nat.eq_of_beq_eq_true heq.1
                  have e2 := Nat.eq_of_beq_eq_true heq.2
                  subst e1
                  simp only [Option.some.injEq, Prod.mk.injEq] at hrow
                  obtain ⟨rfl, rfl⟩ := hrow
                  obtain ⟨bd, hb, hk⟩ := M.get hs hc (by simp)
                  simp only [RelA] at hsv
                  have hsv2 := hsv.2.2 bd hb
                  have := own (l := zs.length) hc hb hk e2.symm (Nat.le_refl _) ?_ hsv.1
                  · simpa only [List.take_length] using this
                  · obtain ⟨_, _, _, h4⟩ := hk
                    rcases h4 with ⟨h5, rfl, h6⟩ | ⟨g, cap, cur, h5, h6, _⟩
                    · exact ⟨0, 0, .inr ⟨h5, by rw [hsv2, h6], rfl⟩⟩
                    · exact ⟨g, cap, .inl ⟨h5, h6, by rw [hsv2, h6]⟩⟩
                · simp at hrow
              · simp at hrow
            · rename_i id l
              split at hrow
              · rename_i e' sz' zs hc
                split at hrow
                · rename_i heq
                  simp only [Bool.and_eq_true] at heq
                  have e1 := Nat.eq_of_beq_eq_true heq.1
                  have e2 := Nat.eq_of_beq_eq_true heq.2
                  subst e1
                  simp only [Option.some.injEq, Prod.mk.injEq] at hrow
                  obtain ⟨rfl, rfl⟩ := hrow
                  obtain ⟨bd, hb, hk⟩ := M.get hs hc (by simp)
                  simp only [RelA] at hsv
                  obtain ⟨a, c, rfl, r1, r2, r3, _, r5⟩ := hsv.2.2 bd hb
                  obtain ⟨n', hn'⟩ := r5 trivial
                  refine own (l := l) hc hb hk e2.symm (by rw [← hk.2.1]; omega) ?_ hsv.1
                  obtain ⟨_, h2, _, h4⟩ := hk
                  rcases h4 with ⟨h5, rfl, h6⟩ | ⟨g, cap, cur, h5, h6, _⟩
                  · rw [h6] at hn'
                    simp only [Value.slice.injEq] at hn'
                    obtain ⟨rfl, _, rfl⟩ := hn'
                    have : l = 0 := by omega
                    subst this
                    exact ⟨0, 0, .inr ⟨h5, rfl, rfl⟩⟩
                  · rw [h6] at hn'
                    simp only [Value.slice.injEq] at hn'
                    obtain ⟨rfl, _, rfl⟩ := hn'
                    exact ⟨g, cap, .inl ⟨h5, h6, rfl⟩⟩
                · simp at hrow
              · simp at hrow
            · simp only [Option.some.injEq, Prod.mk.injEq] at hrow
              obtain ⟨rfl, rfl⟩ := hrow
              obtain ⟨rfl, _⟩ := relC.1 hsv
              exact ⟨fun _ => False, [], by simp, by simp, by simp, by simp, by simpa using World.ownsRow_nil w 0 e d.size, by simp, by simp, by simp [Value.ownBlock], by simp⟩
            · simp at hrow
          obtain ⟨K, cells, hK1, hK2, hK3, hKU, hown, hxs, hcells, hblk1, hblk2⟩ := hA
          -- what is appended
          have hB : ∃ news : List Value, (∀ cs ∈ ys, cs.length = d.size) ∧ news.length = ys.length * d.size ∧ (∀ ad, xa = some ad → ∀ j u, news[j]? = some u → w.cell? (ad.add j) = some u) ∧ (∀ u ∈ news, u.oneCell' = true) ∧ (xa = none → ys = []) ∧ (∀ (j : Nat) (p : PV), ys.flatten[j]? = some p → ∃ u, news[j]? = some u ∧ RelP w F p u) := by
            rcases hxE with rfl | ⟨b, o, rfl, hE⟩
            · exact ⟨[], by simp, by simp, by simp, by simp, fun _ => rfl, by simp⟩
            · by_cases hy0 : ys = []
              · subst hy0; exact ⟨[], by simp, by simp, by simp, by simp, fun _ => rfl, by simp⟩
              · have hsz' : sz = d.size := hsz.resolve_right hy0
                subst hsz'
                have hyl : ∀ cs ∈ ys, cs.length = d.size := by
                  intro cs hc
                  obtain ⟨q, hq⟩ := List.getElem?_of_mem hc
                  exact (hE.at q cs hq).1
                obtain ⟨vs, v1, v2, v3⟩ := RelC.vals (U := U) (β := β) (relE_flat hE)
                have hvl := v1.len
                rw [List.length_map, flat_len hyl] at hvl
                refine ⟨vs, hyl, hvl, ?_, v3, by simp, fun j p hp => relL_map v1 j p hp⟩
                rintro ad h j u hu
                cases h
                rw [Addr.add_lit]
                exact v2 j u hu
          obtain ⟨news, hys, hnl, hnews, hn1, hnone, hncells⟩ := hB
          -- the run
          have hR : ∃ v' w', (Builtin.append_ #[t, t] ty' #[sv, .slice xa ys.length xc]).run P w = .ok v' w' ∧ w'.ownsRow 0 e d.size v' (xs.length + ys.length) (cells ++ news) ∧ w.grownBy w' sv.ownBlock ∧
              (v'.ownBlock = sv.ownBlock ∨ ∀ q, v'.ownBlock = some q → w.heap.size ≤ q) := by
            cases hxa : xa with
            | some ad =>
              exact run_app w 0 t ty' e d.size d.bytes q2 k1 k2 k4 k5 k6 k7 sv xs.length cells hown ad ys.length xc news hnl (hnews ad hxa) hn1 hmax hbytes (Nat.zero_le _)
            | none =>
              have hy0 := hnone hxa
              subst hy0
              obtain rfl : news = [] := List.eq_nil_of_length_eq_zero (by simpa using hnl)
              obtain ⟨a, n, c, rfl, hnc⟩ : ∃ a n c, sv = .slice a n c ∧ n ≤ c := by
                rcases hown.2 with ⟨rfl, _⟩ | ⟨g, cap, cur, rfl, _, _, hnc, _⟩
                · exact ⟨none, 0, 0, rfl, Nat.le_refl _⟩
                · exact ⟨_, _, _, rfl, hnc⟩
              refine ⟨_, w, run_app0 w t ty' e q2 k1 a n c hnc none xc, by simpa using hown, ⟨rfl, rfl, rfl, Nat.le_refl _, fun k _ _ => rfl⟩, .inl rfl⟩
          obtain ⟨v', w', hr, hown', hgr, hob⟩ := hR
          refine ⟨v', w', hr, ?_⟩
          -- the step
          have hfl : ∀ k, (∃ c, (k, c) ∈ ks) → upd h (ks ++ [(m, Chunk.row e d.size (xs ++ ys))]) k = .dead := by
            intro k hk
            obtain ⟨c, hc⟩ := hk
            match ks, hK3, hK2, hc with
            | [(k', c')], _, hd, hc =>
              simp only [List.mem_singleton, Prod.mk.injEq] at hc
              obtain ⟨rfl, rfl⟩ := hc
              have := hd (k, c) (by simp)
              simp only at this
              simp [upd, this]
            | [], _, _, hc => simp at hc
            | _ :: _ :: _, hl, _, _ => simp at hl
          have hoth : ∀ k, ¬ (K k ∨ k = m) → upd h (ks ++ [(m, Chunk.row e d.size (xs ++ ys))]) k = h k := by
            intro k hk
            have h1 : ¬ K k := fun h => hk (.inl h)
            have h2 : k ≠ m := fun h => hk (.inr h)
            rw [hK1] at h1
            match ks, hK3, h1 with
            | [(k', c')], _, h1 =>
              have : k' ≠ k := fun h => h1 ⟨c', by simp [h]⟩
              simp [upd, this, Ne.symm h2]
            | [], _, _ => simp [upd, Ne.symm h2]
            | _ :: _ :: _, hl, _ => simp at hl
          have hmm : upd h (ks ++ [(m, Chunk.row e d.size (xs ++ ys))]) m = .row e d.size (xs ++ ys) := by
            have h1 : ¬ K m := fun h => hm (hKU m h)
            rw [hK1] at h1
            match ks, hK3, h1 with
            | [(k', c')], _, h1 =>
              have : k' ≠ m := fun h => h1 ⟨c', by simp [h]⟩
              simp [upd, this]
            | [], _, _ => simp [upd]
            | _ :: _ :: _, hl, _ => simp at hl
          have hKm : ¬ K m := fun h => hm (hKU m h)
          classical
          let bd' : Bind := ⟨v', v'.ownBlock, xs.length + ys.length, d.size⟩
          have hvlt : ∀ q, v'.ownBlock = some q → q < w'.heap.size ∧ (w.heap.size ≤ q ∨ sv.ownBlock = some q) := by
            intro q hq
            refine ⟨(hown'.lt q hq).2, ?_⟩
            rcases hob with h | h
            · exact .inr (by rw [← h]; exact hq)
            · exact .inl (h q hq)
          obtain ⟨S1, S2⟩ := M.step (w' := w') (h' := upd h (ks ++ [(m, Chunk.row e d.size (xs ++ ys))])) (β' := fun i => if K i then none else if i = m then some bd' else β i) (F' := F) (U' := fun i => U i ∨ (m ≤ i ∧ i < m + 1)) (fun i => K i ∨ i = m)
            (fun i hi => by
              have h1 : ¬ K i := fun h => hi (.inl h)
              have h2 : i ≠ m := fun h => hi (.inr h)
              simp [h1, h2])
            hoth hgr.os hgr.tape hgr.output hgr.size
            (fun b hb hn => hgr.block b hb fun he => by
              obtain ⟨k, bd, hk, hbd, hbb⟩ := hblk1 b he.symm
              exact hn k bd (.inl hk) hbd hbb)
            (fun i hi => .inl hi) (fun b hb => hb) (fun b hb => ⟨Nat.lt_of_lt_of_le (M.fin b hb) hgr.size, .inl hb⟩)
            (fun i bd hi hu hb => by
              rcases hi with hi | rfl
              · simp [hi] at hb
              · exact (hm hu).elim)
            (fun i bd hi hb => by
              rcases hi with hi | rfl
              · simp [hi] at hb
              · simp only [hKm, if_false, if_true, Option.some.injEq] at hb
                subst hb
                refine ⟨.inr ⟨Nat.le_refl _, by omega⟩, fun b hbb => ?_⟩
                obtain ⟨h1, h2⟩ := hvlt b hbb
                refine ⟨h1, ?_, ?_⟩
                · rcases h2 with h2 | h2
                  · intro hf; have := M.fin b hf; omega
                  · obtain ⟨k, bd, hk, hbd, hbb2⟩ := hblk1 b h2
                    exact (M.off k bd b hbd hbb2).1
                · rcases h2 with h2 | h2
                  · exact .inl h2
                  · obtain ⟨k, bd, hk, hbd, hbb2⟩ := hblk1 b h2
                    exact .inr ⟨k, bd, .inl hk, hbd, hbb2⟩)
            (fun i j bi bj b hi hj hbi hbj _ _ => by
              rcases hi with hi | rfl
              · simp [hi] at hbi
              · rcases hj with hj | rfl
                · simp [hj] at hbj
                · rfl)
            (fun E i hi hd => by
              rcases hi with hi | rfl
              · exact (hd (hfl i ((hK1 i).1 hi))).elim
              · refine ⟨bd', by simp [hKm], ?_⟩
                rw [hmm]
                have hall : ∀ cs ∈ xs ++ ys, cs.length = d.size := by
                  intro cs hc
                  rcases List.mem_append.1 hc with hc | hc
                  · exact hxs cs hc
                  · exact hys cs hc
                refine ⟨rfl, by simp [bd'], hall, ?_⟩
                rcases hown'.2 with ⟨hv0, hn0⟩ | ⟨g, cap, cur, hv0, _, hg, hnc, hcm, hcs, htake⟩
                · refine .inl ⟨by simp [bd', hv0, Value.ownBlock], ?_, hv0⟩
                  exact List.eq_nil_of_length_eq_zero (by simpa using hn0)
                · refine .inr ⟨g, cap, cur, by simp [bd', hv0, Value.ownBlock], by simpa [bd'] using hv0, hg, by simpa using hnc, hcm, hcs, relE_unflat hall ?_⟩
                  refine relC_of_vals (vs := cells ++ news) ?_ ?_
                  · intro j p hp
                    rw [List.flatten_append] at hp
                    have hcl : cells.length = xs.flatten.length := by rw [flat_len hxs]; exact hown.1
                    by_cases hj : j < xs.flatten.length
                    · rw [List.getElem?_append_left hj] at hp
                      obtain ⟨u, hu1, hu2⟩ := hcells j p hp
                      exact ⟨u, by rw [List.getElem?_append_left (by omega)]; exact hu1, RelP.mono E.f p u hu2⟩
                    · rw [List.getElem?_append_right (by omega)] at hp
                      obtain ⟨u, hu1, hu2⟩ := hncells _ p hp
                      exact ⟨u, by rw [List.getElem?_append_right (by omega), hcl]; exact hu1, RelP.mono E.f p u hu2⟩
                  · intro j u hu
                    have := hown'.cells (g := g) (by rw [hv0]; rfl) j u hu
                    rw [Addr.add_lit, Nat.zero_add] at this
                    exact this)
          refine ⟨F, _, S1, S2, ?_, fun b hb => .inl hb⟩
          simp only [RelA]
          refine ⟨.inr ⟨Nat.le_refl _, by omega⟩, ?_, fun bd hb => ?_⟩
          · rcases hown'.2 with ⟨hv0, _⟩ | ⟨g, cap, cur, hv0, _⟩ <;> rw [hv0] <;> rfl
          · simp only [hKm, if_false, if_true, Option.some.injEq] at hb
            subst hb; rfl
        · simp at he
      · simp at he
    · simp at he
  · simp at he
theorem ex2_run (M : MemOk W N U F β h w) (hs : ∀ id, hT id ≠ .dead → hT id = h id) {m : Nat} (hm : ¬ U m) {g : Operand → AV} {ev : Operand → Value} {o : Oper} (G : ∀ x ∈ o.op.operands.toList, RelA U w F β (g x) (ev x)) {φ : Prop} {r : Eff} (he : ex2 P g hT m o.op = some (φ, r)) (hφ : φ) :
    ∃ n w', (execOp ev o).run P w = .ok n w' ∧ isVal n = true ∧ StepTo W N U F β h w m r (nv n) w' := by
  unfold ex2 at he
  split at he
  · rename_i e hop
    split at he
    · rename_i d hd
      split at he
      · rename_i hcd
        simp only [Bool.and_eq_true] at hcd
        obtain ⟨i, z, k1, k2, k3, k4, k5, k6, k7⟩ := zero_info hd hcd.1.1 hcd.1.2
        simp only [Option.some.injEq, Prod.mk.injEq] at he
        obtain ⟨_, rfl⟩ := he
        have := blk_new M hm e (cs := d.zero.map fun v => .c (.v v)) (vs := z.cells) (by rw [k3]; exact zero_rel hcd.2) (by rw [k3]; exact fun u hu => List.all_eq_true.1 hcd.2 u hu)
        refine ⟨.value _, _, ?_, rfl, this⟩
        simp only [execOp, hop, Instr.alloc, Sem.run_bind, run_zero' k1 k2, Result.andThen_ok, newVar, newRow, run_newObj, Sem.run_pure]
        rfl
      · simp at he
    · simp at he
  · rename_i e x hop
    split at he
    · rename_i cs hcs
      simp only [Option.some.injEq, Prod.mk.injEq] at he
      obtain ⟨_, rfl⟩ := he
      obtain ⟨h1, h2⟩ := cellsOf_run hcs (G x (by simp [hop, Op.operands]))
      refine ⟨.value _, _, ?_, rfl, blk_new M hm e h1 h2⟩
      simp only [execOp, hop, Instr.box, Sem.run_bind, newVar, newRow, run_newObj, Result.andThen_ok, Sem.run_pure]
      rfl
    · simp at he
  · rename_i t parts hop
    split at he
    · rename_i φ' x hb
      simp only [Option.some.injEq, Prod.mk.injEq] at he
      obtain ⟨rfl, rfl⟩ := he
      obtain ⟨z, h1, h2⟩ := build_run (w := w) (fun p hp => G p.2 (by simp [hop, Op.operands]; exact ⟨_, by simpa using hp⟩)) hb
      exact ⟨.value z, w, by simp only [execOp, hop, Sem.run_bind, h1, Result.andThen_ok, Sem.run_pure], rfl, step_pure M m h2⟩
    · simp at he
  · rename_i t len parts hop
    obtain ⟨z, w', h1, h2⟩ := sliceLit_run M hm (fun p hp => G p.2 (by simp [hop, Op.operands]; exact ⟨_, by simpa using hp⟩)) he
    exact ⟨.value z, w', by simp only [execOp, hop, Sem.run_bind, h1, Result.andThen_ok, Sem.run_pure], rfl, h2⟩
  · rename_i t l c hop
    obtain ⟨z, w', h1, h2⟩ := make_run M hm he hφ (G l (by simp [hop, Op.operands])) (G c (by simp [hop, Op.operands]))
    exact ⟨.value z, w', by simp only [execOp, hop, Sem.run_bind, h1, Result.andThen_ok, Sem.run_pure], rfl, h2⟩
  · rename_i t a x hop
    obtain ⟨w', h1, h2⟩ := store_run M hs m he hφ (G a (by simp [hop, Op.operands])) (G x (by simp [hop, Op.operands]))
    exact ⟨.skip, w', by simp only [execOp, hop, Sem.run_bind, h1, Result.andThen_ok, Sem.run_pure], rfl, h2⟩
  · rename_i args ts hop
    split at he
    · rename_i s x t t' ha ht
      split at he
      · rename_i heq
        have := Nat.eq_of_beq_eq_true heq
        subst this
        have ha' : args = #[s, x] := by rw [← ha]
        have ht' : ts = #[t, t] := by rw [← ht]
        subst ha' ht'
        obtain ⟨z, w', h1, h2⟩ := app_run (ty' := o.type) M hs hm he hφ (G s (by simp [hop, Op.operands, Call.operands])) (G x (by simp [hop, Op.operands, Call.operands]))
        refine ⟨.value z, w', ?_, rfl, h2⟩
        simp only [execOp, hop, resolve, Sem.run_bind, Sem.run_pure, Result.andThen_ok, invoke, builtin, List.map_toArray, List.map_cons, List.map_nil, h1]
      · simp at he
    · simp at he
  · split at he
    · rename_i φ' x hx
      simp only [Option.some.injEq, Prod.mk.injEq] at he
      obtain ⟨rfl, rfl⟩ := he
      obtain ⟨z, h1, h2⟩ := ex1_run M hs G hx hφ
      exact ⟨.value z, w, h1, rfl, step_pure M m h2⟩
    · simp at he
end
end Go.Proofs.Ytibknlfadoeglaa
