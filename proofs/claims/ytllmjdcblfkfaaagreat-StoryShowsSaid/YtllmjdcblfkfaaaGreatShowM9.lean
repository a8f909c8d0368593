/- Lemmas for the proof of storyShows.proved. -/
import Derived.Test.YtllmjdcblfkfaaaGreatShowM8
namespace Go.Proofs.YtllmjdcblfkfaaaGreat
set_option linter.all false
open Go.RowKit
set_option maxRecDepth 100000
set_option maxHeartbeats 1000000
theorem rel_strInt {s : ByteArray} {n : Int} {U : Nat → Prop} {w : World} {F : Nat → Prop} {β : Nat → Option Bind} : RelA U w F β (.tup [S s, I .i64 n]) (.tuple #[.string s, .int .i64 n]) := by
 simp only [RelA]
 refine ⟨_, rfl, ?_⟩
 simp [RelL, RelA, RelP, Value.oneCell']
theorem putAll_s (xs : List Int) (hx : ∀ x ∈ xs, I64 x) (hl : xs.length ≤ 140737488351232) : Spec Tryz.prog 39 [.c (.sl 1 (xs.map i64P))] [] (.tup [S (paR xs).1, I .i64 (paR xs).2]) [] :=
 spec_any (enters Tryz.func39 rfl rfl) _ _ (.tuple #[.string (paR xs).1, .int .i64 (paR xs).2]) (fun _ _ _ _ => rel_strInt) fun w F β vs hF hv => by
  obtain ⟨u, rfl, hu⟩ := relL_one hv
  obtain ⟨a, c, rfl, _, _, hE⟩ := rel_els (fun n : Int => Value.int .i64 n) xs hF hu
  exact putAll_any a c w.heap.size xs w hE hx hl (Nat.le_refl _)
theorem packedAll_s (xs : List Int) (hx : ∀ x ∈ xs, I64 x) (hl : xs.length ≤ 140737488351232) : Spec Tryz.prog 75 [.c (.sl 1 (xs.map i64P))] [] (.tup [S (paR xs).1, I .i64 (paR xs).2]) [] :=
 spec_any (enters Tryz.func75 rfl rfl) _ _ (.tuple #[.string (paR xs).1, .int .i64 (paR xs).2]) (fun _ _ _ _ => rel_strInt) fun w F β vs hF hv => by
  obtain ⟨u, rfl, hu⟩ := relL_one hv
  obtain ⟨a, c, rfl, _, _, hE⟩ := rel_els (fun n : Int => Value.int .i64 n) xs hF hu
  exact packedAll_any a c w.heap.size xs w hE hx hl (Nat.le_refl _)
theorem markOf_s (xs : List Nat) (hl : xs.length ≤ 1000000) : Spec Tryz.prog 45 [.c (.sl 1 (xs.map u64P))] [] (.c (.v (.int .u64 (mk 0 xs : Nat)))) [] :=
 spec_any (enters Tryz.func45 rfl rfl) _ _ (.int .u64 (mk 0 xs : Nat)) (fun _ _ _ _ => relC.2 ⟨rfl, rfl⟩) fun w F β vs hF hv => by
  obtain ⟨u, rfl, hu⟩ := relL_one hv
  obtain ⟨a, c, rfl, _, _, hE⟩ := rel_els (fun n : Nat => Value.int .u64 n) xs hF hu
  exact (markOf_any a c w.heap.size xs w hl hE).mono fun e w' h => ⟨h.1, h.2 ▸ Below.refl _ _⟩
theorem mturn_s (m n : Nat) (hm : m < 18446744073709551616) : Spec Tryz.prog 128 [.c (.v (.int .u64 m)), .c (.v (.int .u64 n))] [] (.c (.v (.int .u64 (m ^^^ mx n : Nat)))) [] :=
 spec_scal (enters Tryz.func128 rfl rfl) [.int .u64 m, .int .u64 n] _ rfl fun w => (turn_any m n hm w).mono fun e w' h => ⟨h.1, h.2 ▸ Below.refl _ _⟩
theorem mk_nil (m : Nat) : mk m [] = m := rfl
theorem mkl (l : List Nat) (m : Nat) (k : Nat) (h : k < l.length) : mk m (l.take (k + 1)) = mk m (l.take k) ^^^ mx (l.getD k default) := by rw [take_snoc l k h, mk_snoc]
theorem mall_s (l : List Nat) (hl : l.length ≤ 1000000) : Spec Tryz.prog 93 [.c (.sl 1 [[.sl 1 (l.map u64P)]])] [] (.c (.v (.int .u64 (mk 0 l : Nat)))) [] := by
 refine spec_am Tryz.func93 rfl rfl mix 26 rfl [.tmp 2] Tryz.results93 (Nat.le_of_ble_eq_true rfl) ?_
 (try (refine xst ?_; try exact xtI))
 refine loopI (fun k : Nat => ⟨[(10, I .i64 k), (9, I .i64 1), (8, .c (.sl 1 [[.sl 1 (l.map u64P)]])), (3, .c (.v (.int .u64 ((if k = 0 then 0 else mk 0 l : Nat) : Int))))], [], 0⟩) (fun k : Nat => k ≤ 1) (fun k : Nat => 1 - k) (0) (Nat.zero_le _) (To.mk [] rfl rfl List.nodup_nil trivial ?_) ?_
 ·simp (etaStruct := .none) only [push_cast, DrawG, seval, if_pos trivial]
 rintro k hk
 (try (refine xst ?_; try exact xtI))
 refine cond_i (fun h1 => ?_) (fun h1 => ?_)
 ·(try replace h1 := xhh h1)
  obtain rfl : k = 0 := by omega
  (try (refine xst ?_; try exact xtI))
  refine loopI (fun k : Nat => ⟨[(16, I .i64 k), (15, I .i64 l.length), (14, .c (.sl 1 (l.map u64P))), (10, I .i64 0), (9, I .i64 1), (8, .c (.sl 1 [[.sl 1 (l.map u64P)]])), (3, .c (.v (.int .u64 (mk 0 (l.take k) : Nat))))], [], 0⟩) (fun k : Nat => k ≤ l.length) (fun k : Nat => l.length - k) (0) (Nat.zero_le _) (To.mk [] rfl rfl List.nodup_nil trivial ?_) ?_
  ·simp (etaStruct := .none) only [push_cast, DrawG, seval, List.take_zero, mk_nil]
  rintro k hk
  (try (refine xst ?_; try exact xtI))
  refine cond_i (fun h2 => ?_) (fun h2 => ?_)
  ·(try replace h2 := xhh h2)
   have hlt : k < l.length := by omega
   have ml := mkl l 0 k hlt
   (iterate 2 ((try simp (etaStruct := .none) only [push_cast, DrawG, seval, getD_in _ _ _ hlt, u64P]); (try (refine xsu ?_; try exact xtI))))
   refine caP (mturn_s (mk 0 (l.take k)) (l.getD k default) (mk_lt _ 0 (by decide))) ?_
   (iterate 2 ((try simp (etaStruct := .none) only [push_cast, DrawG, seval, getD_in _ _ _ hlt, u64P]); (try (refine xsu ?_; try exact xtI))))
   refine ⟨k + 1, by omega, by omega, To.mk [] rfl rfl List.nodup_nil trivial ?_⟩
   ·(iterate 2 ((try simp (etaStruct := .none) only [push_cast, DrawG, seval, ml]); (try (refine xsu ?_; try exact xtI))))
  ·(try replace h2 := xhh h2)
   obtain rfl : k = l.length := by omega
   (iterate 2 ((try simp (etaStruct := .none) only [push_cast, DrawG, seval, List.take_length]); (try (refine xsu ?_; try exact xtI))))
   refine ⟨1, by omega, by omega, To.mk [] rfl rfl List.nodup_nil trivial ?_⟩
   ·(iterate 2 ((try simp (etaStruct := .none) only [push_cast, DrawG, seval, if_neg (show ¬ (1 : Nat) = 0 by decide), Int.zero_add]); (try (refine xsu ?_; try exact xtI))))
 ·(try replace h1 := xhh h1)
  obtain rfl : k = 1 := by omega
  (try (refine xst ?_; try exact xtI))
  exact xrz rfl
theorem mof_s (l : List Nat) (hl : l.length ≤ 1000000) : Spec Tryz.prog 60 [.c (.sl 1 (l.map u64P))] [] (.c (.v (.int .u64 (mk 0 l : Nat)))) [] := by
 refine spec_am Tryz.func60 rfl rfl mix 6 rfl [.tmp 2] Tryz.results60 (Nat.le_of_ble_eq_true rfl) ?_
 (try (refine xst ?_; try exact xtI))
 refine callB (mall_s l hl) (WkL.refl _) rfl ?_
 (try (refine xst ?_; try exact xtI))
 exact xrz rfl
def leafI (l : List Int) : Nat := leafN (paR l).1
theorem paR_size (l : List Int) : (paR l).1.size ≤ 20000 := by
 unfold paR
 split
 ·show 0 ≤ 20000; omega
 ·show ByteArray.size ⟨(paK l l.length).toArray⟩ ≤ 20000
  rw [bs_size]; have := paK_len l l.length; omega
theorem tleaf_s (l : List Int) (hx : ∀ x ∈ l, I64 x) (hl : l.length ≤ 1000000) : Spec Tryz.prog 59 [.c (.sl 1 (l.map i64P))] [] (.c (.v (.int .u64 (leafI l : Nat)))) [] := by
 have := paR_size l
 refine spec_am Tryz.func59 rfl rfl mix 12 rfl [.tmp 2] Tryz.results59 (Nat.le_of_ble_eq_true rfl) ?_
 (try (refine xst ?_; try exact xtI))
 refine caP (putAll_s l hx (by omega)) ?_
 (try (refine xst ?_; try exact xtI))
 refine caP (leaf_s (paR l).1 (by omega)) ?_
 (try (refine xst ?_; try exact xtI))
 (first | (refine retA rfl (Wk.of ?_); (try simp (etaStruct := .none) only [push_cast, DrawG, seval]); first | done | (simp [leafI, *]; done) | (simp_all [leafI]; done)) | (refine retA rfl ?_; (try simp (etaStruct := .none) only [push_cast, DrawG, seval]); (try simp [leafI, *]); (try exact wkc)))
theorem rleaf_s (l : List Int) (hx : ∀ x ∈ l, I64 x) (hl : l.length ≤ 1000000) : Spec Tryz.prog 44 [.c (.sl 1 (l.map i64P))] [] (.c (.v (.int .u64 (leafI l : Nat)))) [] := by
 have := paR_size l
 refine spec_am Tryz.func44 rfl rfl mix 12 rfl [.tmp 2] Tryz.results44 (Nat.le_of_ble_eq_true rfl) ?_
 (try (refine xst ?_; try exact xtI))
 refine caP (packedAll_s l hx (by omega)) ?_
 (try (refine xst ?_; try exact xtI))
 refine caP (leafOf_s (paR l).1 (by omega)) ?_
 (try (refine xst ?_; try exact xtI))
 (first | (refine retA rfl (Wk.of ?_); (try simp (etaStruct := .none) only [push_cast, DrawG, seval]); first | done | (simp [leafI, *]; done) | (simp_all [leafI]; done)) | (refine retA rfl ?_; (try simp (etaStruct := .none) only [push_cast, DrawG, seval]); (try simp [leafI, *]); (try exact wkc)))
def hdI (w : Wld) : List Int := [1, w.f.w, w.f.h, w.next, w.now] ++ w.f.p
def basI (w : Wld) (i : Nat) : List Int := [2, (i : Int), (w.bases.getD i default).x, (w.bases.getD i default).y, w.stocks.getD i default]
def minI (w : Wld) (i : Nat) : List Int := [3, (i : Int), w.mines.getD i default]
def trpI (w : Wld) (i : Nat) : List Int := [4, (w.troops.getD i default).id, (w.troops.getD i default).owner, (w.troops.getD i default).kind, (w.troops.getD i default).c.x, (w.troops.getD i default).c.y, (w.troops.getD i default).life, (w.troops.getD i default).load]
def wl1 (w : Wld) (k : Nat) : List Nat := leafI (hdI w) :: (List.range k).map fun i => leafI (basI w i)
def wl2 (w : Wld) (k : Nat) : List Nat := wl1 w w.bases.length ++ (List.range k).flatMap fun i => if w.mines.getD i default = 0 then [] else [leafI (minI w i)]
def wl3 (w : Wld) (k : Nat) : List Nat := wl2 w w.mines.length ++ (List.range k).map fun i => leafI (trpI w i)
theorem wl1_0 (w : Wld) : wl1 w 0 = [leafI (hdI w)] := rfl
theorem wl2_0 (w : Wld) : wl2 w 0 = wl1 w w.bases.length := by simp [wl2]
theorem wl3_0 (w : Wld) : wl3 w 0 = wl2 w w.mines.length := by simp [wl3]
theorem wl1_s (w : Wld) (k : Nat) : wl1 w (k + 1) = wl1 w k ++ [leafI (basI w k)] := by simp [wl1, List.range_succ]
theorem wl2_s (w : Wld) (k : Nat) : wl2 w (k + 1) = wl2 w k ++ (if w.mines.getD k default = 0 then [] else [leafI (minI w k)]) := by
 unfold wl2; rw [List.range_succ, List.flatMap_append, ← List.append_assoc]; congr 1; exact List.flatMap_singleton ..
theorem wl3_s (w : Wld) (k : Nat) : wl3 w (k + 1) = wl3 w k ++ [leafI (trpI w k)] := by simp [wl3, List.range_succ]
theorem wl1_len (w : Wld) : ∀ k, (wl1 w k).length = k + 1 := by intro k; simp [wl1]
theorem wl2_len (w : Wld) : ∀ k, (wl2 w k).length ≤ w.bases.length + 1 + k
 | 0 => by rw [wl2_0, wl1_len]; omega
 | k + 1 => by
  have := wl2_len w k
  rw [wl2_s, List.length_append]; split <;> simp <;> omega
theorem wl3_len (w : Wld) (k : Nat) : (wl3 w k).length ≤ w.bases.length + 1 + w.mines.length + k := by
 have := wl2_len w w.mines.length
 unfold wl3; rw [List.length_append, List.length_map, List.length_range]; omega
def wmarkV (w : Wld) : Nat := mk 0 (wl3 w w.troops.length)
theorem world_b {w : Wld} (h : worldE w = 0) : (1 ≤ w.f.w ∧ w.f.w ≤ 40) ∧ (1 ≤ w.f.h ∧ w.f.h ≤ 40) ∧ (w.f.p.length ≤ 1600 ∧ ∀ p ∈ w.f.p, 0 ≤ p ∧ p < 4) ∧ w.bases.length ≤ 8 ∧ w.troops.length ≤ 100 ∧ w.stocks.length = w.bases.length ∧ w.mines.length = w.f.p.length ∧ (1 ≤ w.next ∧ w.next ≤ 1000000) ∧ (0 ≤ w.now ∧ w.now ≤ 1000000) ∧
 (∀ k, k < w.bases.length → (0 ≤ (w.bases.getD k default).x ∧ (w.bases.getD k default).x ≤ 39) ∧ (0 ≤ (w.bases.getD k default).y ∧ (w.bases.getD k default).y ≤ 39) ∧ 0 ≤ w.stocks.getD k default ∧ w.stocks.getD k default ≤ 1000000) ∧
 (∀ k, k < w.mines.length → 0 ≤ w.mines.getD k default ∧ w.mines.getD k default ≤ 1000000) := by
 obtain ⟨h1, h2, h3, h4, h5⟩ := worldE_ok h
 obtain ⟨g1, g2, g3, g4⟩ := fldE_ok h1
 obtain ⟨f1, f2, f3, f4⟩ := worldF_ok h4
 have hm2 : w.f.w * w.f.h ≤ 40 * 40 := Int.mul_le_mul g1.2 g2.2 (by omega) (by omega)
 unfold worldB at h5
 simp only [Bool.and_eq_true] at h5
 refine ⟨g1, g2, ⟨by omega, g4⟩, h2, h3, f1, f2, f3, f4, fun k hk => ?_, fun k hk => ?_⟩
 ·have := (allN_iff _ _).1 h5.1.1 k hk
  unfold baseB at this
  simp only [Bool.and_eq_true, within_iff] at this
  have hi := inF_iff.1 (ground_iff.1 this.1.1).1
  omega
 ·have := (allN_iff _ _).1 h5.1.2 k hk
  unfold mineB at this
  simp only [Bool.and_eq_true, within_iff] at this
  omega
theorem hdI_ok {w : Wld} (h : worldE w = 0) : (∀ x ∈ hdI w, I64 x) ∧ (hdI w).length ≤ 1000000 := by
 obtain ⟨b1, b2, b3, b4, b5, b6, b7, b8, b9, b10, b11⟩ := world_b h
 refine ⟨fun x hx => ?_, by simp [hdI]; omega⟩
 simp only [hdI, List.mem_append, List.mem_cons, List.not_mem_nil, or_false] at hx
 unfold I64
 rcases hx with (rfl | rfl | rfl | rfl | rfl) | hx
 ·omega
 ·omega
 ·omega
 ·omega
 ·omega
 ·have := b3.2 x hx; omega
theorem basI_ok {w : Wld} (h : worldE w = 0) {k : Nat} (hk : k < w.bases.length) : (∀ x ∈ basI w k, I64 x) ∧ (basI w k).length ≤ 1000000 := by
 obtain ⟨b1, b2, b3, b4, b5, b6, b7, b8, b9, b10, b11⟩ := world_b h
 have := b10 k hk
 refine ⟨fun x hx => ?_, by simp [basI]⟩
 simp only [basI, List.mem_cons, List.not_mem_nil, or_false] at hx
 unfold I64
 rcases hx with rfl | rfl | rfl | rfl | rfl <;> omega
theorem minI_ok {w : Wld} (h : worldE w = 0) {k : Nat} (hk : k < w.mines.length) : (∀ x ∈ minI w k, I64 x) ∧ (minI w k).length ≤ 1000000 := by
 obtain ⟨b1, b2, b3, b4, b5, b6, b7, b8, b9, b10, b11⟩ := world_b h
 have := b11 k hk
 refine ⟨fun x hx => ?_, by simp [minI]⟩
 simp only [minI, List.mem_cons, List.not_mem_nil, or_false] at hx
 unfold I64
 rcases hx with rfl | rfl | rfl <;> omega
theorem kindV_le {k : Int} : (kindV k).life ≤ 20 := by unfold kindV; split; decide; split <;> decide
theorem trpI_ok {w : Wld} (h : worldE w = 0) {k : Nat} (hk : k < w.troops.length) : (∀ x ∈ trpI w k, I64 x) ∧ (trpI w k).length ≤ 1000000 := by
 obtain ⟨b1, b2, b3, b4, b5, b6, b7, b8, b9, b10, b11⟩ := world_b h
 obtain ⟨t1, t2, t3, t4, t5, t6, t7, t8⟩ := (troop_ok h hk).1
 have kl := @kindV_le (w.troops.getD k default).kind
 refine ⟨fun x hx => ?_, by simp [trpI]⟩
 simp only [trpI, List.mem_cons, List.not_mem_nil, or_false] at hx
 unfold I64
 rcases hx with rfl | rfl | rfl | rfl | rfl | rfl | rfl | rfl <;> omega
theorem worldMark_s (w : Wld) (hw : worldE w = 0) : Spec Tryz.prog 25 [wldA w] [] (.c (.v (.int .u64 (wmarkV w : Nat)))) [] := by
 obtain ⟨b1, b2, b3, b4, b5, b6, b7, b8, b9, b10, b11⟩ := world_b hw
 have h0 := hdI_ok hw
 refine spec_am Tryz.func25 rfl rfl mix 102 rfl [.tmp 2] Tryz.results25 (Nat.le_of_ble_eq_true rfl) ?_
 (try (refine xst ?_; try exact xtI))
 refine callB (rleaf_s (hdI w) h0.1 h0.2) (WkL.refl _) rfl ?_
 (try (refine xst ?_; try exact xtI))
 refine loopI (fun k : Nat => ⟨[(32, I .i64 k), (31, I .i64 w.bases.length), (30, .c (.sl 2 (w.bases.map celP))), (4, .own 1), (1, .ptr 0 0 0)], [(0, .blk 28 (wldC w)), (1, .row 32 1 ((wl1 w k).map u64P))], 2⟩) (fun k : Nat => k ≤ w.bases.length) (fun k : Nat => w.bases.length - k) (0) (Nat.zero_le _) (To.mk [0, 3] rfl rfl (by decide) ?_ ?_) ?_
 ·simp (etaStruct := .none) only [push_cast, DrawG, seval, wl1_0, u64P]
 ·simp (etaStruct := .none) only [push_cast, DrawG, seval]
 rintro k hk
 (try (refine xst ?_; try exact xtI))
 refine cond_i (fun h1 => ?_) (fun h1 => ?_)
 ·(try replace h1 := xhh h1)
  have hlt : k < w.bases.length := by omega
  have hlt2 : k < w.stocks.length := by omega
  have ok := basI_ok hw hlt
  have ln := wl1_len w k
  (iterate 2 ((try simp (etaStruct := .none) only [push_cast, DrawG, seval, getD_in _ _ _ hlt, getD_in _ _ _ hlt2, celP, i64P]); (try (refine xsu ?_; try exact xtI))))
  refine callB (rleaf_s (basI w k) ok.1 ok.2) (WkL.refl _) rfl ?_
  (iterate 2 ((try simp (etaStruct := .none) only [push_cast, DrawG, seval, getD_in _ _ _ hlt, getD_in _ _ _ hlt2, celP, i64P]); (try (refine xsu ?_; try exact xtI))))
  (try (refine ⟨by kernel_rfl, ?_⟩))
  (iterate 2 ((try simp (etaStruct := .none) only [push_cast, DrawG, seval, getD_in _ _ _ hlt, getD_in _ _ _ hlt2, celP, i64P]); (try (refine xsu ?_; try exact xtI))))
  refine ⟨k + 1, by omega, by omega, To.mk [0, 59] rfl rfl (by decide) ?_ ?_⟩
  ·(iterate 2 ((try simp (etaStruct := .none) only [push_cast, DrawG, seval, wl1_s, List.map_append, u64P]); (try (refine xsu ?_; try exact xtI))))
  ·(iterate 2 ((try simp (etaStruct := .none) only [push_cast, DrawG, seval, getD_in _ _ _ hlt, getD_in _ _ _ hlt2, celP, i64P]); (try (refine xsu ?_; try exact xtI))))
 ·(try replace h1 := xhh h1)
  obtain rfl : k = w.bases.length := by omega
  (try (refine xst ?_; try exact xtI))
  refine loopI (fun k : Nat => ⟨[(56, I .i64 k), (55, I .i64 w.mines.length), (54, .c (.sl 1 (w.mines.map i64P))), (4, .own 1), (1, .ptr 0 0 0)], [(0, .blk 28 (wldC w)), (1, .row 32 1 ((wl2 w k).map u64P))], 2⟩) (fun k : Nat => k ≤ w.mines.length) (fun k : Nat => w.mines.length - k) (0) (Nat.zero_le _) (To.mk [0, 1] rfl rfl (by decide) ?_ ?_) ?_
  ·simp (etaStruct := .none) only [push_cast, DrawG, seval, wl2_0]
  ·simp (etaStruct := .none) only [push_cast, DrawG, seval]
  rintro k hk
  (try (refine xst ?_; try exact xtI))
  refine cond_i (fun h2 => ?_) (fun h2 => ?_)
  ·(try replace h2 := xhh h2)
   have hlt : k < w.mines.length := by omega
   have ok := minI_ok hw hlt
   have ln := wl2_len w k
   have bm := b11 k hlt
   have st := wl2_s w k
   (iterate 2 ((try simp (etaStruct := .none) only [push_cast, DrawG, seval, getD_in _ _ _ hlt, i64P]); (try (refine xsu ?_; try exact xtI))))
   refine cond_i (fun h3 => ?_) (fun h3 => ?_)
   ·(try replace h3 := xhh h3)
    rw [if_neg (by omega)] at st
    (iterate 2 ((try simp (etaStruct := .none) only [push_cast, DrawG, seval, getD_in _ _ _ hlt, i64P]); (try (refine xsu ?_; try exact xtI))))
    refine callB (rleaf_s (minI w k) ok.1 ok.2) (WkL.refl _) rfl ?_
    (iterate 2 ((try simp (etaStruct := .none) only [push_cast, DrawG, seval, getD_in _ _ _ hlt, i64P]); (try (refine xsu ?_; try exact xtI))))
    refine ⟨k + 1, by omega, by omega, To.mk [0, 4] rfl rfl (by decide) ?_ ?_⟩
    ·(iterate 2 ((try simp (etaStruct := .none) only [push_cast, DrawG, seval, st, List.map_append, u64P]); (try (refine xsu ?_; try exact xtI))))
    ·(iterate 2 ((try simp (etaStruct := .none) only [push_cast, DrawG, seval, getD_in _ _ _ hlt, i64P]); (try (refine xsu ?_; try exact xtI))))
   ·(try replace h3 := xhh h3)
    rw [if_pos (by omega), List.append_nil] at st
    (iterate 2 ((try simp (etaStruct := .none) only [push_cast, DrawG, seval, getD_in _ _ _ hlt, i64P]); (try (refine xsu ?_; try exact xtI))))
    refine ⟨k + 1, by omega, by omega, To.mk [0, 1] rfl rfl (by decide) ?_ ?_⟩
    ·(iterate 2 ((try simp (etaStruct := .none) only [push_cast, DrawG, seval, st]); (try (refine xsu ?_; try exact xtI))))
    ·(iterate 2 ((try simp (etaStruct := .none) only [push_cast, DrawG, seval, getD_in _ _ _ hlt, i64P]); (try (refine xsu ?_; try exact xtI))))
  ·(try replace h2 := xhh h2)
   obtain rfl : k = w.mines.length := by omega
   (try (refine xst ?_; try exact xtI))
   refine loopI (fun k : Nat => ⟨[(74, I .i64 k), (73, I .i64 w.troops.length), (72, .c (.sl 7 (w.troops.map trpP))), (4, .own 0)], [(0, .row 32 1 ((wl3 w k).map u64P))], 1⟩) (fun k : Nat => k ≤ w.troops.length) (fun k : Nat => w.troops.length - k) (0) (Nat.zero_le _) (To.mk [1] rfl rfl (by decide) ?_ ?_) ?_
   ·simp (etaStruct := .none) only [push_cast, DrawG, seval, wl3_0]
   ·simp (etaStruct := .none) only [push_cast, DrawG, seval]
   rintro k hk
   (try (refine xst ?_; try exact xtI))
   refine cond_i (fun h4 => ?_) (fun h4 => ?_)
   ·(try replace h4 := xhh h4)
    have hlt : k < w.troops.length := by omega
    have ok := trpI_ok hw hlt
    have ln := wl3_len w k
    (iterate 2 ((try simp (etaStruct := .none) only [push_cast, DrawG, seval, getD_in _ _ _ hlt, trpP]); (try (refine xsu ?_; try exact xtI))))
    refine callB (rleaf_s (trpI w k) ok.1 ok.2) (WkL.refl _) rfl ?_
    (iterate 2 ((try simp (etaStruct := .none) only [push_cast, DrawG, seval, getD_in _ _ _ hlt, trpP]); (try (refine xsu ?_; try exact xtI))))
    refine ⟨k + 1, by omega, by omega, To.mk [4] rfl rfl (by decide) ?_ ?_⟩
    ·(iterate 2 ((try simp (etaStruct := .none) only [push_cast, DrawG, seval, wl3_s, List.map_append, u64P]); (try (refine xsu ?_; try exact xtI))))
    ·(iterate 2 ((try simp (etaStruct := .none) only [push_cast, DrawG, seval, getD_in _ _ _ hlt, trpP]); (try (refine xsu ?_; try exact xtI))))
   ·(try replace h4 := xhh h4)
    obtain rfl : k = w.troops.length := by omega
    have ln := wl3_len w w.troops.length
    (try (refine xst ?_; try exact xtI))
    refine callB (markOf_s (wl3 w w.troops.length) (by omega)) (WkL.refl _) rfl ?_
    (try (refine xst ?_; try exact xtI))
    (first | (refine retA rfl (Wk.of ?_); (try simp (etaStruct := .none) only [push_cast, DrawG, seval]); first | done | (simp [wmarkV, *]; done) | (simp_all [wmarkV]; done)) | (refine retA rfl ?_; (try simp (etaStruct := .none) only [push_cast, DrawG, seval]); (try simp [wmarkV, *]); (try exact wkc)))
theorem tmark_s (w : Wld) (hl : wldL w) (hw : worldE w = 0) : Spec Tryz.prog 33 [wldA w] [] (.tup [.c (.v (.int .u64 (wmarkV w : Nat))), I .i64 0]) [] := by
 obtain ⟨b1, b2, b3, b4, b5, b6, b7, b8, b9, b10, b11⟩ := world_b hw
 have h0 := hdI_ok hw
 refine spec_am Tryz.func33 rfl rfl mix 107 rfl [.tmp 2, .tmp 3] Tryz.results33 (Nat.le_of_ble_eq_true rfl) ?_
 (try (refine xst ?_; try exact xtI))
 refine caP (tcheck_s w hl) ?_
 (try (refine xst ?_; try exact xtI))
 refine cond_i (fun h1 => ?_) (fun h1 => ?_)
 ·(try replace h1 := xhh h1)
  exact absurd hw h1
 ·(try replace h1 := xhh h1)
  (try (refine xst ?_; try exact xtI))
  refine callB (tleaf_s (hdI w) h0.1 h0.2) (WkL.refl _) rfl ?_
  (try (refine xst ?_; try exact xtI))
  refine loopI (fun k : Nat => ⟨[(37, I .i64 k), (36, I .i64 w.bases.length), (35, .c (.sl 2 (w.bases.map celP))), (5, .own 1), (1, .ptr 0 0 0)], [(0, .blk 28 (wldC w)), (1, .row 32 1 ((wl1 w k).map u64P))], 2⟩) (fun k : Nat => k ≤ w.bases.length) (fun k : Nat => w.bases.length - k) (0) (Nat.zero_le _) (To.mk [0, 3] rfl rfl (by decide) ?_ ?_) ?_
  ·simp (etaStruct := .none) only [push_cast, DrawG, seval, wl1_0, u64P]
  ·simp (etaStruct := .none) only [push_cast, DrawG, seval]
  rintro k hk
  (try (refine xst ?_; try exact xtI))
  refine cond_i (fun h2 => ?_) (fun h2 => ?_)
  ·(try replace h2 := xhh h2)
   have hlt : k < w.bases.length := by omega
   have hlt2 : k < w.stocks.length := by omega
   have ok := basI_ok hw hlt
   have ln := wl1_len w k
   (iterate 2 ((try simp (etaStruct := .none) only [push_cast, DrawG, seval, getD_in _ _ _ hlt, getD_in _ _ _ hlt2, celP, i64P]); (try (refine xsu ?_; try exact xtI))))
   refine callB (tleaf_s (basI w k) ok.1 ok.2) (WkL.refl _) rfl ?_
   (iterate 2 ((try simp (etaStruct := .none) only [push_cast, DrawG, seval, getD_in _ _ _ hlt, getD_in _ _ _ hlt2, celP, i64P]); (try (refine xsu ?_; try exact xtI))))
   (try (refine ⟨by kernel_rfl, ?_⟩))
   (iterate 2 ((try simp (etaStruct := .none) only [push_cast, DrawG, seval, getD_in _ _ _ hlt, getD_in _ _ _ hlt2, celP, i64P]); (try (refine xsu ?_; try exact xtI))))
   refine ⟨k + 1, by omega, by omega, To.mk [0, 59] rfl rfl (by decide) ?_ ?_⟩
   ·(iterate 2 ((try simp (etaStruct := .none) only [push_cast, DrawG, seval, wl1_s, List.map_append, u64P]); (try (refine xsu ?_; try exact xtI))))
   ·(iterate 2 ((try simp (etaStruct := .none) only [push_cast, DrawG, seval, getD_in _ _ _ hlt, getD_in _ _ _ hlt2, celP, i64P]); (try (refine xsu ?_; try exact xtI))))
  ·(try replace h2 := xhh h2)
   obtain rfl : k = w.bases.length := by omega
   (try (refine xst ?_; try exact xtI))
   refine loopI (fun k : Nat => ⟨[(61, I .i64 k), (60, I .i64 w.mines.length), (59, .c (.sl 1 (w.mines.map i64P))), (5, .own 1), (1, .ptr 0 0 0)], [(0, .blk 28 (wldC w)), (1, .row 32 1 ((wl2 w k).map u64P))], 2⟩) (fun k : Nat => k ≤ w.mines.length) (fun k : Nat => w.mines.length - k) (0) (Nat.zero_le _) (To.mk [0, 1] rfl rfl (by decide) ?_ ?_) ?_
   ·simp (etaStruct := .none) only [push_cast, DrawG, seval, wl2_0]
   ·simp (etaStruct := .none) only [push_cast, DrawG, seval]
   rintro k hk
   (try (refine xst ?_; try exact xtI))
   refine cond_i (fun h3 => ?_) (fun h3 => ?_)
   ·(try replace h3 := xhh h3)
    have hlt : k < w.mines.length := by omega
    have ok := minI_ok hw hlt
    have ln := wl2_len w k
    have bm := b11 k hlt
    have st := wl2_s w k
    (iterate 2 ((try simp (etaStruct := .none) only [push_cast, DrawG, seval, getD_in _ _ _ hlt, i64P]); (try (refine xsu ?_; try exact xtI))))
    refine cond_i (fun h4 => ?_) (fun h4 => ?_)
    ·(try replace h4 := xhh h4)
     rw [if_neg (by omega)] at st
     (iterate 2 ((try simp (etaStruct := .none) only [push_cast, DrawG, seval, getD_in _ _ _ hlt, i64P]); (try (refine xsu ?_; try exact xtI))))
     refine callB (tleaf_s (minI w k) ok.1 ok.2) (WkL.refl _) rfl ?_
     (iterate 2 ((try simp (etaStruct := .none) only [push_cast, DrawG, seval, getD_in _ _ _ hlt, i64P]); (try (refine xsu ?_; try exact xtI))))
     refine ⟨k + 1, by omega, by omega, To.mk [0, 4] rfl rfl (by decide) ?_ ?_⟩
     ·(iterate 2 ((try simp (etaStruct := .none) only [push_cast, DrawG, seval, st, List.map_append, u64P]); (try (refine xsu ?_; try exact xtI))))
     ·(iterate 2 ((try simp (etaStruct := .none) only [push_cast, DrawG, seval, getD_in _ _ _ hlt, i64P]); (try (refine xsu ?_; try exact xtI))))
    ·(try replace h4 := xhh h4)
     rw [if_pos (by omega), List.append_nil] at st
     (iterate 2 ((try simp (etaStruct := .none) only [push_cast, DrawG, seval, getD_in _ _ _ hlt, i64P]); (try (refine xsu ?_; try exact xtI))))
     refine ⟨k + 1, by omega, by omega, To.mk [0, 1] rfl rfl (by decide) ?_ ?_⟩
     ·(iterate 2 ((try simp (etaStruct := .none) only [push_cast, DrawG, seval, st]); (try (refine xsu ?_; try exact xtI))))
     ·(iterate 2 ((try simp (etaStruct := .none) only [push_cast, DrawG, seval, getD_in _ _ _ hlt, i64P]); (try (refine xsu ?_; try exact xtI))))
   ·(try replace h3 := xhh h3)
    obtain rfl : k = w.mines.length := by omega
    (try (refine xst ?_; try exact xtI))
    refine loopI (fun k : Nat => ⟨[(79, I .i64 k), (78, I .i64 w.troops.length), (77, .c (.sl 7 (w.troops.map trpP))), (5, .own 0)], [(0, .row 32 1 ((wl3 w k).map u64P))], 1⟩) (fun k : Nat => k ≤ w.troops.length) (fun k : Nat => w.troops.length - k) (0) (Nat.zero_le _) (To.mk [1] rfl rfl (by decide) ?_ ?_) ?_
    ·simp (etaStruct := .none) only [push_cast, DrawG, seval, wl3_0]
    ·simp (etaStruct := .none) only [push_cast, DrawG, seval]
    rintro k hk
    (try (refine xst ?_; try exact xtI))
    refine cond_i (fun h5 => ?_) (fun h5 => ?_)
    ·(try replace h5 := xhh h5)
     have hlt : k < w.troops.length := by omega
     have ok := trpI_ok hw hlt
     have ln := wl3_len w k
     (iterate 2 ((try simp (etaStruct := .none) only [push_cast, DrawG, seval, getD_in _ _ _ hlt, trpP]); (try (refine xsu ?_; try exact xtI))))
     refine callB (tleaf_s (trpI w k) ok.1 ok.2) (WkL.refl _) rfl ?_
     (iterate 2 ((try simp (etaStruct := .none) only [push_cast, DrawG, seval, getD_in _ _ _ hlt, trpP]); (try (refine xsu ?_; try exact xtI))))
     refine ⟨k + 1, by omega, by omega, To.mk [4] rfl rfl (by decide) ?_ ?_⟩
     ·(iterate 2 ((try simp (etaStruct := .none) only [push_cast, DrawG, seval, wl3_s, List.map_append, u64P]); (try (refine xsu ?_; try exact xtI))))
     ·(iterate 2 ((try simp (etaStruct := .none) only [push_cast, DrawG, seval, getD_in _ _ _ hlt, trpP]); (try (refine xsu ?_; try exact xtI))))
    ·(try replace h5 := xhh h5)
     obtain rfl : k = w.troops.length := by omega
     have ln := wl3_len w w.troops.length
     (try (refine xst ?_; try exact xtI))
     refine callB (mof_s (wl3 w w.troops.length) (by omega)) (WkL.refl _) rfl ?_
     (try (refine xst ?_; try exact xtI))
     (first | (refine retA rfl (Wk.of ?_); (try simp (etaStruct := .none) only [push_cast, DrawG, seval]); first | done | (simp [wmarkV, *]; done) | (simp_all [wmarkV]; done)) | (refine retA rfl ?_; (try simp (etaStruct := .none) only [push_cast, DrawG, seval]); (try simp [wmarkV, *]); (try exact wkc)))
def ordsP (l : List Ord) : List PV := [.sl 6 (l.map ordP)]
def runW (WR : Cel → List Int) : List (List Ord) → Wld → Wld
 | [], w => w
 | o :: r, w => runW WR r (turnV WR w o)
def runM (WR : Cel → List Int) : List (List Ord) → Wld → List Nat
 | [], w => [wmarkV w]
 | o :: r, w => wmarkV w :: runM WR r (turnV WR w o)
def runE (WR : Cel → List Int) : List (List Ord) → Wld → Int
 | [], _ => 0
 | o :: r, w => if turnE o w ≠ 0 then turnE o w else runE WR r (turnV WR w o)
theorem deedV_f (w : Wld) (d : Ded) : (deedV w d).1.f = w.f := by
 unfold deedV
 repeat' split
 all_goals rfl
theorem deedsA_f (l : List Ded) : ∀ w, (deedsA w l).1.f = w.f := by
 induction l with
 | nil => intro w; rfl
 | cons a r ih => intro w; rw [deedsA, ih, deedV_f]
theorem turnV_f (WR : Cel → List Int) (w : Wld) (o : List Ord) : (turnV WR w o).f = w.f := by
 unfold turnV nowUp tkC; rw [show ({ (deedsA (tkB WR w o) (deedsV o w)).1 with now := (deedsA (tkB WR w o) (deedsV o w)).1.now + 1 } : Wld).f = (deedsA (tkB WR w o) (deedsV o w)).1.f from rfl, deedsA_f]; rfl
theorem runW_f (WR : Cel → List Int) : ∀ (l : List (List Ord)) (w : Wld), (runW WR l w).f = w.f
 | [], _ => rfl
 | o :: r, w => by rw [runW, runW_f WR r, turnV_f]
theorem runW_snoc (WR : Cel → List Int) (o : List Ord) : ∀ (l : List (List Ord)) (w : Wld), runW WR (l ++ [o]) w = turnV WR (runW WR l w) o
 | [], _ => rfl
 | a :: r, w => by rw [List.cons_append, runW, runW_snoc WR o r]; rfl
theorem runM_snoc (WR : Cel → List Int) (o : List Ord) : ∀ (l : List (List Ord)) (w : Wld), runM WR (l ++ [o]) w = runM WR l w ++ [wmarkV (turnV WR (runW WR l w) o)]
 | [], _ => rfl
 | a :: r, w => by rw [List.cons_append, runM, runM_snoc WR o r]; rfl
theorem runE_app (WR : Cel → List Int) (b : List (List Ord)) : ∀ (a : List (List Ord)) (w : Wld), runE WR (a ++ b) w = if runE WR a w ≠ 0 then runE WR a w else runE WR b (runW WR a w)
 | [], w => by simp [runE, runW]
 | o :: r, w => by
  rw [List.cons_append, runE, runE, runE_app WR b r, runW]
  by_cases h : turnE o w ≠ 0
  ·rw [if_pos h, if_pos h, if_pos h]
  ·rw [if_neg h, if_neg h]
theorem runM_len (WR : Cel → List Int) : ∀ (l : List (List Ord)) (w : Wld), (runM WR l w).length = l.length + 1
 | [], _ => rfl
 | o :: r, w => by rw [runM, List.length_cons, runM_len WR r, List.length_cons]
theorem turnE_ok {w : Wld} {l : List Ord} (h : turnE l w = 0) : Right w ∧ w.now < 1000000 := by
 have hs : splitE l w = 0 := by unfold turnE at h; split at h; rename_i h1; exact absurd h h1; rename_i h1; simpa using h1
 have hn : w.now < 1000000 := by unfold turnE at h; rw [if_neg (by simp [hs])] at h; split at h; exact absurd h (by decide); omega
 exact ⟨right_of (splitE_ok hs).2, hn⟩
theorem right_run {WR : Cel → List Int} : ∀ (l : List (List Ord)) {w : Wld}, Right w → (∀ a, FloodIs w.f [a] (WR a)) → runE WR l w = 0 → Right (runW WR l w)
 | [], _, h, _, _ => h
 | o :: r, w, h, hWR, he => by
  rw [runE] at he
  split at he
  ·rename_i h1; exact absurd he h1
  ·rename_i h1
   have h1 : turnE o w = 0 := by simpa using h1
   exact right_run r (right_turn h hWR o (turnE_ok h1).2) (by intro a; rw [turnV_f]; exact hWR a) he
theorem run_step {WR : Cel → List Int} {ts : List (List Ord)} {w : Wld} {k : Nat} (hk : k < ts.length) (h : runE WR (ts.take k) w = 0) : (turnE (ts.getD k default) (runW WR (ts.take k) w) ≠ 0 → runE WR ts w = turnE (ts.getD k default) (runW WR (ts.take k) w)) ∧ (turnE (ts.getD k default) (runW WR (ts.take k) w) = 0 → runE WR (ts.take (k + 1)) w = 0) := by
 have e1 := take_snoc ts k hk
 constructor
 ·intro hn
  have e2 : ts = ts.take k ++ ts.drop k := (List.take_append_drop k ts).symm
  have e3 : ts.drop k = ts.getD k default :: ts.drop (k + 1) := by rw [getD_at _ _ hk]; exact List.drop_eq_getElem_cons hk
  rw [show runE WR ts w = runE WR (ts.take k ++ ts.drop k) w from by rw [← e2], runE_app, if_neg (by simp [h]), e3, runE, if_pos hn]
 ·intro h0
  rw [e1, runE_app, if_neg (fun hn => hn h), runE, if_neg (fun hn => hn h0)]; rfl
theorem struck_nil {w : Wld} (h : Right w) : struckW w [] = w := by
 have e : woundT w [] = id := by funext t; unfold woundT; rw [harm_nil]; simp
 unfold struckW leftV
 rw [e, List.map_id, List.filter_eq_self.2]
 intro t ht
 obtain ⟨i, hi, rfl⟩ := List.mem_iff_getElem.1 ht
 have := (h.trp i hi).life
 rw [getD_at _ _ hi] at this
 simp; omega
abbrev wld0C : List AV := [I .i64 0, I .i64 0, .c (.v (.slice none 0 0)), .c (.v (.slice none 0 0)), .c (.v (.slice none 0 0)), .c (.v (.slice none 0 0)), .c (.v (.slice none 0 0)), I .i64 0, I .i64 0]
theorem trun_k (w : Wld) (ts : List (List Ord)) (WR : Cel → List Int) (hWR : ∀ a, FloodIs w.f [a] (WR a)) (hts : ts.length ≤ 200) (hin : ∀ l ∈ ts, l.length ≤ 9223372036854775807) (hw : Right w) : Spec Tryz.prog 20 [wldA w, .c (.sl 1 (ts.map ordsP))] [] (.tup [wldA (if runE WR ts w = 0 then runW WR ts w else default), .c (.sl 1 ((if runE WR ts w = 0 then runM WR ts w else []).map u64P)), I .i64 (runE WR ts w)]) [] := by
 have e1 : blowsE w [] = 0 := by unfold blowsE; rw [if_neg (by simp [hw.e]), if_neg (by simp)]
 have HK := hstruck_k w [] hw.l (by simp) e1
 rw [e1, show struckR w [] = w from by unfold struckR; rw [if_pos e1, struck_nil hw]] at HK
 obtain ⟨E, hE⟩ : ∃ E, E = runE WR ts w := ⟨_, rfl⟩
 rw [← hE]
 refine spec_am Tryz.func20 rfl rfl mix 64 rfl [.cell 4 28, .tmp 5, .tmp 6] Tryz.results20 (Nat.le_of_ble_eq_true rfl) ?_
 (try (refine xst ?_; try exact xtI))
 refine cond_i (fun h1 => ?_) (fun h1 => ?_)
 ·(try replace h1 := xhh h1)
  omega
 ·(try replace h1 := xhh h1)
  (try (refine xst ?_; try exact xtI))
  refine callP (HK) (by exact ⟨Wk.refl _, Wk.nil _, trivial⟩) ?_
  (try (refine xst ?_; try exact xtI))
  refine cond_i (fun h2 => ?_) (fun h2 => ?_)
  ·(try replace h2 := xhh h2)
   simp at h2
  ·(try replace h2 := xhh h2)
   (try (refine xst ?_; try exact xtI))
   refine caP (tmark_s w hw.l hw.e) ?_
   (try (refine xst ?_; try exact xtI))
   refine loopI (fun k : Nat => ⟨[(37, I .i64 k), (36, I .i64 ts.length), (35, .c (.sl 1 (ts.map ordsP))), (11, .own 2), (4, .ptr 1 0 0), (2, .ptr 0 0 0)], [(0, .blk 28 (wldC (runW WR (ts.take k) w))), (1, .blk 28 wld0C), (2, .row 32 1 ((runM WR (ts.take k) w).map u64P))], 3⟩) (fun k : Nat => k ≤ ts.length ∧ runE WR (ts.take k) w = 0) (fun k : Nat => ts.length - k) (0) (⟨Nat.zero_le _, rfl⟩) (To.mk [0, 1, 2] rfl rfl (by decide) ?_ ?_) ?_
   ·simp (etaStruct := .none) only [push_cast, DrawG, seval, List.take_zero, runW, runM, List.map_cons, List.map_nil, u64P]
   ·simp (etaStruct := .none) only [push_cast, DrawG, seval]
   rintro k ⟨hk, hn⟩
   (try (refine xst ?_; try exact xtI))
   refine cond_i (fun h3 => ?_) (fun h3 => ?_)
   ·(try replace h3 := xhh h3)
    have hlt : k < ts.length := by omega
    have RK := right_run (ts.take k) hw hWR hn
    have hWk : ∀ a, FloodIs (runW WR (ts.take k) w).f [a] (WR a) := by intro a; rw [runW_f]; exact hWR a
    obtain ⟨st1, st2⟩ := run_step hlt hn
    have T := tturn_s (runW WR (ts.take k) w) (ts.getD k default) WR hWk RK.l (hin _ (getD_mem _ _ hlt))
    (iterate 2 ((try simp (etaStruct := .none) only [push_cast, DrawG, seval, getD_in _ _ _ hlt, ordsP]); (try (refine xsu ?_; try exact xtI))))
    refine caP (T) ?_
    (iterate 2 ((try simp (etaStruct := .none) only [push_cast, DrawG, seval, getD_in _ _ _ hlt, ordsP]); (try (refine xsu ?_; try exact xtI))))
    refine cond_i (fun h4 => ?_) (fun h4 => ?_)
    ·(try replace h4 := xhh h4)
     have hE2 := hE.trans (st1 h4)
     rw [if_neg (by rw [hE2]; exact h4), if_neg (by rw [hE2]; exact h4), hE2]
     (iterate 2 ((try simp (etaStruct := .none) only [push_cast, DrawG, seval, getD_in _ _ _ hlt, ordsP]); (try (refine xsu ?_; try exact xtI))))
     exact xrz rfl
    ·(try replace h4 := xhh h4)
     have e0 : turnE (ts.getD k default) (runW WR (ts.take k) w) = 0 := by simpa using h4
     have hWv : turnW WR (runW WR (ts.take k) w) (ts.getD k default) = turnV WR (runW WR (ts.take k) w) (ts.getD k default) := if_pos e0
     have RV : Right (turnW WR (runW WR (ts.take k) w) (ts.getD k default)) := by rw [hWv]; exact right_turn RK hWk _ (turnE_ok e0).2
     have hW1 : runW WR (ts.take (k + 1)) w = turnW WR (runW WR (ts.take k) w) (ts.getD k default) := by rw [take_snoc ts k hlt, runW_snoc, hWv]
     have hM1 : runM WR (ts.take (k + 1)) w = runM WR (ts.take k) w ++ [wmarkV (turnW WR (runW WR (ts.take k) w) (ts.getD k default))] := by rw [take_snoc ts k hlt, runM_snoc, hWv]
     have hml := runM_len WR (ts.take k) w
     rw [List.length_take] at hml
     (iterate 2 ((try simp (etaStruct := .none) only [push_cast, DrawG, seval, getD_in _ _ _ hlt, ordsP]); (try (refine xsu ?_; try exact xtI))))
     refine caP (tmark_s _ RV.l RV.e) ?_
     (iterate 2 ((try simp (etaStruct := .none) only [push_cast, DrawG, seval, getD_in _ _ _ hlt, ordsP]); (try (refine xsu ?_; try exact xtI))))
     refine ⟨k + 1, ⟨by omega, st2 e0⟩, by omega, To.mk [0, 1, 4] rfl rfl (by decide) ?_ ?_⟩
     ·(iterate 2 ((try simp (etaStruct := .none) only [push_cast, DrawG, seval, hW1, hM1, List.map_append, List.map_cons, List.map_nil, u64P]); (try (refine xsu ?_; try exact xtI))))
     ·(iterate 2 ((try simp (etaStruct := .none) only [push_cast, DrawG, seval, getD_in _ _ _ hlt, ordsP]); (try (refine xsu ?_; try exact xtI))))
   ·(try replace h3 := xhh h3)
    obtain rfl : k = ts.length := by omega
    rw [List.take_length] at hn
    have hE0 : E = 0 := hE.trans hn
    rw [if_pos hE0, if_pos hE0, hE0]
    (iterate 2 ((try simp (etaStruct := .none) only [push_cast, DrawG, seval, List.take_length]); (try (refine xsu ?_; try exact xtI))))
    exact xrz rfl
theorem rrun_k (w : Wld) (ts : List (List Ord)) (WR : Cel → List Int) (hWR : ∀ a, FloodIs w.f [a] (WR a)) (hts : ts.length ≤ 200) (hin : ∀ l ∈ ts, l.length ≤ 9223372036854775807) (hw : Right w) : Spec Tryz.prog 16 [wldA w, .c (.sl 1 (ts.map ordsP))] [] (.tup [wldA (if runE WR ts w = 0 then runW WR ts w else default), .c (.sl 1 ((if runE WR ts w = 0 then runM WR ts w else []).map u64P)), I .i64 (runE WR ts w)]) [] := by
 have HW := wright_s w hw.l
 rw [hw.e] at HW
 obtain ⟨E, hE⟩ : ∃ E, E = runE WR ts w := ⟨_, rfl⟩
 rw [← hE]
 refine spec_am Tryz.func16 rfl rfl mix 50 rfl [.cell 4 28, .tmp 5, .tmp 6] Tryz.results16 (Nat.le_of_ble_eq_true rfl) ?_
 (try (refine xst ?_; try exact xtI))
 refine cond_i (fun h1 => ?_) (fun h1 => ?_)
 ·(try replace h1 := xhh h1)
  omega
 ·(try replace h1 := xhh h1)
  (try (refine xst ?_; try exact xtI))
  refine caP (HW) ?_
  (try (refine xst ?_; try exact xtI))
  refine cond_i (fun h2 => ?_) (fun h2 => ?_)
  ·(try replace h2 := xhh h2)
   simp at h2
  ·(try replace h2 := xhh h2)
   (try (refine xst ?_; try exact xtI))
   refine caP (worldMark_s w hw.e) ?_
   (try (refine xst ?_; try exact xtI))
   refine loopI (fun k : Nat => ⟨[(27, I .i64 k), (26, I .i64 ts.length), (25, .c (.sl 1 (ts.map ordsP))), (8, .own 2), (4, .ptr 1 0 0), (2, .ptr 0 0 0)], [(0, .blk 28 (wldC (runW WR (ts.take k) w))), (1, .blk 28 wld0C), (2, .row 32 1 ((runM WR (ts.take k) w).map u64P))], 3⟩) (fun k : Nat => k ≤ ts.length ∧ runE WR (ts.take k) w = 0) (fun k : Nat => ts.length - k) (0) (⟨Nat.zero_le _, rfl⟩) (To.mk [0, 1, 2] rfl rfl (by decide) ?_ ?_) ?_
   ·simp (etaStruct := .none) only [push_cast, DrawG, seval, List.take_zero, runW, runM, List.map_cons, List.map_nil, u64P]
   ·simp (etaStruct := .none) only [push_cast, DrawG, seval]
   rintro k ⟨hk, hn⟩
   (try (refine xst ?_; try exact xtI))
   refine cond_i (fun h3 => ?_) (fun h3 => ?_)
   ·(try replace h3 := xhh h3)
    have hlt : k < ts.length := by omega
    have RK := right_run (ts.take k) hw hWR hn
    have hWk : ∀ a, FloodIs (runW WR (ts.take k) w).f [a] (WR a) := by intro a; rw [runW_f]; exact hWR a
    obtain ⟨st1, st2⟩ := run_step hlt hn
    have T := rturn_s (runW WR (ts.take k) w) (ts.getD k default) WR hWk RK.l (hin _ (getD_mem _ _ hlt))
    (iterate 2 ((try simp (etaStruct := .none) only [push_cast, DrawG, seval, getD_in _ _ _ hlt, ordsP]); (try (refine xsu ?_; try exact xtI))))
    refine caP (T) ?_
    (iterate 2 ((try simp (etaStruct := .none) only [push_cast, DrawG, seval, getD_in _ _ _ hlt, ordsP]); (try (refine xsu ?_; try exact xtI))))
    refine cond_i (fun h4 => ?_) (fun h4 => ?_)
    ·(try replace h4 := xhh h4)
     have hE2 := hE.trans (st1 h4)
     rw [if_neg (by rw [hE2]; exact h4), if_neg (by rw [hE2]; exact h4), hE2]
     (iterate 2 ((try simp (etaStruct := .none) only [push_cast, DrawG, seval, getD_in _ _ _ hlt, ordsP]); (try (refine xsu ?_; try exact xtI))))
     exact xrz rfl
    ·(try replace h4 := xhh h4)
     have e0 : turnE (ts.getD k default) (runW WR (ts.take k) w) = 0 := by simpa using h4
     have hWv : turnW WR (runW WR (ts.take k) w) (ts.getD k default) = turnV WR (runW WR (ts.take k) w) (ts.getD k default) := if_pos e0
     have RV : Right (turnW WR (runW WR (ts.take k) w) (ts.getD k default)) := by rw [hWv]; exact right_turn RK hWk _ (turnE_ok e0).2
     have hW1 : runW WR (ts.take (k + 1)) w = turnW WR (runW WR (ts.take k) w) (ts.getD k default) := by rw [take_snoc ts k hlt, runW_snoc, hWv]
     have hM1 : runM WR (ts.take (k + 1)) w = runM WR (ts.take k) w ++ [wmarkV (turnW WR (runW WR (ts.take k) w) (ts.getD k default))] := by rw [take_snoc ts k hlt, runM_snoc, hWv]
     have hml := runM_len WR (ts.take k) w
     rw [List.length_take] at hml
     (iterate 2 ((try simp (etaStruct := .none) only [push_cast, DrawG, seval, getD_in _ _ _ hlt, ordsP]); (try (refine xsu ?_; try exact xtI))))
     refine caP (worldMark_s _ RV.e) ?_
     (iterate 2 ((try simp (etaStruct := .none) only [push_cast, DrawG, seval, getD_in _ _ _ hlt, ordsP]); (try (refine xsu ?_; try exact xtI))))
     refine ⟨k + 1, ⟨by omega, st2 e0⟩, by omega, To.mk [0, 1, 4] rfl rfl (by decide) ?_ ?_⟩
     ·(iterate 2 ((try simp (etaStruct := .none) only [push_cast, DrawG, seval, hW1, hM1, List.map_append, List.map_cons, List.map_nil, u64P]); (try (refine xsu ?_; try exact xtI))))
     ·(iterate 2 ((try simp (etaStruct := .none) only [push_cast, DrawG, seval, getD_in _ _ _ hlt, ordsP]); (try (refine xsu ?_; try exact xtI))))
   ·(try replace h3 := xhh h3)
    obtain rfl : k = ts.length := by omega
    rw [List.take_length] at hn
    have hE0 : E = 0 := hE.trans hn
    rw [if_pos hE0, if_pos hE0, hE0]
    (iterate 2 ((try simp (etaStruct := .none) only [push_cast, DrawG, seval, List.take_length]); (try (refine xsu ?_; try exact xtI))))
    exact xrz rfl
def runRE (WR : Cel → List Int) (ts : List (List Ord)) (w : Wld) : Int := if 200 < ts.length then 2 else if worldE w ≠ 0 then worldE w else runE WR ts w
def runRW (WR : Cel → List Int) (ts : List (List Ord)) (w : Wld) : Wld := if runRE WR ts w = 0 then runW WR ts w else default
def runRM (WR : Cel → List Int) (ts : List (List Ord)) (w : Wld) : List Nat := if runRE WR ts w = 0 then runM WR ts w else []
theorem trun_l (w : Wld) (ts : List (List Ord)) (h : 200 < ts.length) : Spec Tryz.prog 20 [wldA w, .c (.sl 1 (ts.map ordsP))] [] (.tup [wldA default, .c (.sl 1 (([] : List Nat).map u64P)), I .i64 2]) [] := by
 refine spec_am Tryz.func20 rfl rfl mix 64 rfl [.cell 4 28, .tmp 5, .tmp 6] Tryz.results20 (Nat.le_of_ble_eq_true rfl) ?_
 (try (refine xst ?_; try exact xtI))
 refine cond_i (fun h1 => ?_) (fun h1 => ?_)
 ·(try replace h1 := xhh h1)
  (try (refine xst ?_; try exact xtI))
  exact xrz rfl
 ·(try replace h1 := xhh h1)
  omega
theorem rrun_l (w : Wld) (ts : List (List Ord)) (h : 200 < ts.length) : Spec Tryz.prog 16 [wldA w, .c (.sl 1 (ts.map ordsP))] [] (.tup [wldA default, .c (.sl 1 (([] : List Nat).map u64P)), I .i64 2]) [] := by
 refine spec_am Tryz.func16 rfl rfl mix 50 rfl [.cell 4 28, .tmp 5, .tmp 6] Tryz.results16 (Nat.le_of_ble_eq_true rfl) ?_
 (try (refine xst ?_; try exact xtI))
 refine cond_i (fun h1 => ?_) (fun h1 => ?_)
 ·(try replace h1 := xhh h1)
  (try (refine xst ?_; try exact xtI))
  exact xrz rfl
 ·(try replace h1 := xhh h1)
  omega
theorem trun_w (w : Wld) (ts : List (List Ord)) (hl : wldL w) (h : ts.length ≤ 200) (hw : worldE w ≠ 0) : Spec Tryz.prog 20 [wldA w, .c (.sl 1 (ts.map ordsP))] [] (.tup [wldA default, .c (.sl 1 (([] : List Nat).map u64P)), I .i64 (worldE w)]) [] := by
 have e1 : blowsE w [] = worldE w := by unfold blowsE; rw [if_pos hw]
 have HK := hstruck_e w [] hl (by simp) (by rw [e1]; exact hw)
 rw [e1] at HK
 refine spec_am Tryz.func20 rfl rfl mix 64 rfl [.cell 4 28, .tmp 5, .tmp 6] Tryz.results20 (Nat.le_of_ble_eq_true rfl) ?_
 (try (refine xst ?_; try exact xtI))
 refine cond_i (fun h1 => ?_) (fun h1 => ?_)
 ·(try replace h1 := xhh h1)
  omega
 ·(try replace h1 := xhh h1)
  (try (refine xst ?_; try exact xtI))
  refine callP (HK) (by exact ⟨Wk.refl _, Wk.nil _, trivial⟩) ?_
  (try (refine xst ?_; try exact xtI))
  refine cond_i (fun h2 => ?_) (fun h2 => ?_)
  ·(try replace h2 := xhh h2)
   (try (refine xst ?_; try exact xtI))
   exact xrz rfl
  ·(try replace h2 := xhh h2)
   exact absurd h2 hw
theorem rrun_w (w : Wld) (ts : List (List Ord)) (hl : wldL w) (h : ts.length ≤ 200) (hw : worldE w ≠ 0) : Spec Tryz.prog 16 [wldA w, .c (.sl 1 (ts.map ordsP))] [] (.tup [wldA default, .c (.sl 1 (([] : List Nat).map u64P)), I .i64 (worldE w)]) [] := by
 refine spec_am Tryz.func16 rfl rfl mix 50 rfl [.cell 4 28, .tmp 5, .tmp 6] Tryz.results16 (Nat.le_of_ble_eq_true rfl) ?_
 (try (refine xst ?_; try exact xtI))
 refine cond_i (fun h1 => ?_) (fun h1 => ?_)
 ·(try replace h1 := xhh h1)
  omega
 ·(try replace h1 := xhh h1)
  (try (refine xst ?_; try exact xtI))
  refine caP (wright_s w hl) ?_
  (try (refine xst ?_; try exact xtI))
  refine cond_i (fun h2 => ?_) (fun h2 => ?_)
  ·(try replace h2 := xhh h2)
   (try (refine xst ?_; try exact xtI))
   exact xrz rfl
  ·(try replace h2 := xhh h2)
   exact absurd h2 hw
theorem trun_s (w : Wld) (ts : List (List Ord)) (WR : Cel → List Int) (hWR : ∀ a, FloodIs w.f [a] (WR a)) (hl : wldL w) (hin : ∀ l ∈ ts, l.length ≤ 9223372036854775807) : Spec Tryz.prog 20 [wldA w, .c (.sl 1 (ts.map ordsP))] [] (.tup [wldA (runRW WR ts w), .c (.sl 1 ((runRM WR ts w).map u64P)), I .i64 (runRE WR ts w)]) [] := by
 unfold runRW runRM
 obtain ⟨E, hE⟩ : ∃ E, E = runRE WR ts w := ⟨_, rfl⟩
 rw [← hE]
 unfold runRE at hE
 by_cases h : 200 < ts.length
 ·rw [if_pos h] at hE; subst hE; exact trun_l w ts h
 ·rw [if_neg h] at hE
  by_cases hw : worldE w = 0
  ·rw [if_neg (fun hn => hn hw)] at hE; subst hE; exact trun_k w ts WR hWR (by omega) hin (right_of hw)
  ·rw [if_pos hw] at hE; subst hE; rw [if_neg hw, if_neg hw]; exact trun_w w ts hl (by omega) hw
theorem rrun_s (w : Wld) (ts : List (List Ord)) (WR : Cel → List Int) (hWR : ∀ a, FloodIs w.f [a] (WR a)) (hl : wldL w) (hin : ∀ l ∈ ts, l.length ≤ 9223372036854775807) : Spec Tryz.prog 16 [wldA w, .c (.sl 1 (ts.map ordsP))] [] (.tup [wldA (runRW WR ts w), .c (.sl 1 ((runRM WR ts w).map u64P)), I .i64 (runRE WR ts w)]) [] := by
 unfold runRW runRM
 obtain ⟨E, hE⟩ : ∃ E, E = runRE WR ts w := ⟨_, rfl⟩
 rw [← hE]
 unfold runRE at hE
 by_cases h : 200 < ts.length
 ·rw [if_pos h] at hE; subst hE; exact rrun_l w ts h
 ·rw [if_neg h] at hE
  by_cases hw : worldE w = 0
  ·rw [if_neg (fun hn => hn hw)] at hE; subst hE; exact rrun_k w ts WR hWR (by omega) hin (right_of hw)
  ·rw [if_pos hw] at hE; subst hE; rw [if_neg hw, if_neg hw]; exact rrun_w w ts hl (by omega) hw
theorem runRE_ok {WR : Cel → List Int} {ts : List (List Ord)} {w : Wld} (h : runRE WR ts w = 0) : ts.length ≤ 200 ∧ Right w ∧ runE WR ts w = 0 := by
 unfold runRE at h
 split at h
 ·exact absurd h (by decide)
 ·split at h
  ·rename_i h1; exact absurd h h1
  ·rename_i h1; exact ⟨by omega, right_of (Decidable.not_not.1 h1), h⟩
structure Sty where
 start : Wld
 turns : List (List Ord)
 deriving DecidableEq, Inhabited
abbrev styC (s : Sty) : List AV := [I .i64 s.start.f.w, I .i64 s.start.f.h, .c (.sl 1 (s.start.f.p.map i64P)), .c (.sl 2 (s.start.bases.map celP)), .c (.sl 1 (s.start.stocks.map i64P)), .c (.sl 1 (s.start.mines.map i64P)), .c (.sl 7 (s.start.troops.map trpP)), I .i64 s.start.next, I .i64 s.start.now, .c (.sl 1 (s.turns.map ordsP))]
abbrev styA (s : Sty) : AV := .agg (styC s)
structure StyL (s : Sty) : Prop where
 w : wldL s.start
 t : ∀ l ∈ s.turns, l.length ≤ 9223372036854775807
 n : s.turns.length ≤ 9223372036854775807
abbrev styE (WR : Cel → List Int) (s : Sty) : Int := runRE WR s.turns s.start
theorem scheck_st (s : Sty) (WR : Cel → List Int) (hWR : ∀ a, FloodIs s.start.f [a] (WR a)) (hl : StyL s) : Spec Tryz.prog 12 [styA s] [] (I .i64 (styE WR s)) [] := by
 have T := trun_s s.start s.turns WR hWR hl.w hl.t
 refine spec_am Tryz.func12 rfl rfl mix 16 rfl [.tmp 2] Tryz.results12 (Nat.le_of_ble_eq_true rfl) ?_
 (try (refine xst ?_; try exact xtI))
 refine caP (T) ?_
 (try (refine xst ?_; try exact xtI))
 exact xrz rfl
theorem sright_st (s : Sty) (WR : Cel → List Int) (hWR : ∀ a, FloodIs s.start.f [a] (WR a)) (hl : StyL s) : Spec Tryz.prog 6 [styA s] [] (I .i64 (styE WR s)) [] := by
 have T := rrun_s s.start s.turns WR hWR hl.w hl.t
 refine spec_am Tryz.func6 rfl rfl mix 16 rfl [.tmp 2] Tryz.results6 (Nat.le_of_ble_eq_true rfl) ?_
 (try (refine xst ?_; try exact xtI))
 refine caP (T) ?_
 (try (refine xst ?_; try exact xtI))
 exact xrz rfl
def ordI (o : Ord) : List Int := [o.by_, o.kind, o.who, o.c.x, o.c.y, o.what]
def ordsI (l : List Ord) : List Int := l.flatMap ordI
theorem ordsI_len : ∀ l : List Ord, (ordsI l).length = 6 * l.length
 | [] => rfl
 | o :: r => by
  have := ordsI_len r
  unfold ordsI at this ⊢
  rw [List.flatMap_cons, List.length_append, this, List.length_cons]
  simp only [ordI, List.length_cons, List.length_nil]; omega
theorem ordsI_snoc (l : List Ord) (k : Nat) (h : k < l.length) : ordsI (l.take (k + 1)) = ordsI (l.take k) ++ ordI (l.getD k default) := by
 unfold ordsI
 rw [take_snoc l k h, List.flatMap_append]; simp
theorem ordsI_at : ∀ (l : List Ord) (k j : Nat), k < l.length → j < 6 → (ordsI l)[6 * k + j]? = (ordI (l.getD k default))[j]?
 | [], k, j, h, _ => by simp at h
 | o :: r, 0, j, _, hj => by
  unfold ordsI
  rw [List.flatMap_cons, Nat.mul_zero, Nat.zero_add, List.getElem?_append_left (by simp [ordI]; omega)]; rfl
 | o :: r, k + 1, j, h, hj => by
  have ih := ordsI_at r k j (by simpa using h) hj
  unfold ordsI at ih ⊢
  rw [List.flatMap_cons, List.getElem?_append_right (by simp [ordI]; omega)]
  rw [show 6 * (k + 1) + j - (ordI o).length = 6 * k + j from by simp [ordI]; omega, ih]
  simp
theorem ordI_64 {o : Ord} (h : ordE o = 0) : ∀ x ∈ ordI o, I64 x := by
 obtain ⟨h1, h2, h3, h4, h5, _⟩ := ordE_ok h
 intro x hx
 simp only [ordI, List.mem_cons, List.not_mem_nil, or_false] at hx
 unfold I64
 rcases hx with rfl | rfl | rfl | rfl | rfl | rfl <;> omega
theorem ordsI_64 {l : List Ord} (h : ∀ o ∈ l, ordE o = 0) : ∀ x ∈ ordsI l, I64 x := by
 intro x hx
 unfold ordsI at hx
 obtain ⟨o, ho, hx⟩ := List.mem_flatMap.1 hx
 exact ordI_64 (h o ho) x hx
def writeT (l : List Ord) : ByteArray := sealS ⟨(paK (ordsI l) (6 * l.length)).toArray⟩
def writeV (l : List Ord) : ByteArray × Int := if ordsE l ≠ 0 then (⟨#[]⟩, ordsE l) else (writeT l, 0)
theorem paR_ords {l : List Ord} (h : l.length ≤ 100) : paR (ordsI l) = (⟨(paK (ordsI l) (6 * l.length)).toArray⟩, 0) := by
 unfold paR
 rw [ordsI_len, if_neg (by omega)]
theorem writeT_size (l : List Ord) (h : l.length ≤ 100) : (writeT l).size ≤ 10000 := by
 unfold writeT
 rw [sealS_size, bs_size]
 have := paK_len (ordsI l) (6 * l.length)
 omega
theorem cseal_s (s : ByteArray) (hs : s.size ≤ 140737488351232) : Spec Tryz.prog 40 [S s] [] (S (sealS s)) [] :=
 spec_scal (enters Tryz.func40 (by kernel_rfl) rfl) [.string s] (.string (sealS s)) rfl fun w => seal_any s w hs
theorem rsealed_s (s : ByteArray) (hs : s.size ≤ 140737488351232) : Spec Tryz.prog 30 [S s] [] (S (sealS s)) [] :=
 spec_scal (enters Tryz.func30 (by kernel_rfl) rfl) [.string s] (.string (sealS s)) rfl fun w => sealed_any s w hs
theorem rpacked_s (n : Nat) (h : n < 18446744073709551616) : Spec Tryz.prog 28 [.c (.v (.int .u64 n))] [] (S (packS n)) [] :=
 spec_scal (enters Tryz.func28 (by kernel_rfl) rfl) [.int .u64 n] (.string (packS n)) rfl fun w => packedS_any n w h
theorem rfolded_s (n : Int) (h : I64 n) : Spec Tryz.prog 29 [I .i64 n] [] (.c (.v (.int .u64 (foldN n : Nat)))) [] :=
 spec_scal (enters Tryz.func29 (by kernel_rfl) rfl) [.int .i64 n] (.int .u64 (foldN n : Nat)) rfl fun w => (folded_any n h w).mono fun e w' h => ⟨h.1, h.2 ▸ Below.refl _ _⟩
theorem owrite_s (l : List Ord) (hl : l.length ≤ 9223372036854775807) : Spec Tryz.prog 22 [.c (.sl 6 (l.map ordP))] [] (.tup [S (writeV l).1, I .i64 (writeV l).2]) [] := by
 have OA := oall_s l hl
 by_cases h0 : ordsE l = 0
 ·obtain ⟨hl100, hok⟩ := ordsE_ok h0
  have hV : writeV l = (writeT l, 0) := if_neg (by simp [h0])
  have PA := putAll_s (ordsI l) (ordsI_64 hok) (by rw [ordsI_len]; omega)
  rw [paR_ords hl100] at PA
  have hsz := paK_len (ordsI l) (6 * l.length)
  have CS := cseal_s ⟨(paK (ordsI l) (6 * l.length)).toArray⟩ (by rw [bs_size]; omega)
  have hw : sealS ⟨(paK (ordsI l) (6 * l.length)).toArray⟩ = writeT l := rfl
  rw [hw] at CS
  rw [hV]
  rw [h0] at OA
  clear hV hsz hw
  simp only at PA
  generalize (⟨(paK (ordsI l) (6 * l.length)).toArray⟩ : ByteArray) = T at *
  refine spec_am Tryz.func22 rfl rfl mix 49 rfl [.tmp 2, .tmp 3] Tryz.results22 (Nat.le_of_ble_eq_true rfl) ?_
  (try (refine xst ?_; try exact xtI))
  refine caP (OA) ?_
  (try (refine xst ?_; try exact xtI))
  refine cond_i (fun h1 => ?_) (fun h1 => ?_)
  ·(try replace h1 := xhh h1)
   simp at h1
  ·(try replace h1 := xhh h1)
   (try (refine xst ?_; try exact xtI))
   refine loopI (fun k : Nat => ⟨[(17, I .i64 k), (16, I .i64 l.length), (15, .c (.sl 6 (l.map ordP))), (5, .own 0)], [(0, .row 3 1 ((ordsI (l.take k)).map i64P))], 1⟩) (fun k : Nat => k ≤ l.length) (fun k : Nat => l.length - k) (0) (Nat.zero_le _) ((To.nil 5 3 1 rfl).trans (To.mk [0] rfl rfl (by decide) ?_ ?_)) ?_
   ·simp (etaStruct := .none) only [push_cast, DrawG, seval, ordsI, List.take_zero, List.flatMap_nil, List.map_nil]
   ·simp (etaStruct := .none) only [push_cast, DrawG, seval]
   rintro k hk
   (try (refine xst ?_; try exact xtI))
   refine cond_i (fun h2 => ?_) (fun h2 => ?_)
   ·(try replace h2 := xhh h2)
    have hlt : k < l.length := by omega
    have hS := ordsI_snoc l k hlt
    have hSl := ordsI_len (l.take k)
    have hSk : (l.take k).length ≤ k := List.length_take_le _ _
    (iterate 2 ((try simp (etaStruct := .none) only [push_cast, DrawG, seval, getD_in _ _ _ hlt, ordP]); (try (refine xsu ?_; try exact xtI))))
    refine ⟨k + 1, by omega, by omega, To.mk [3] rfl rfl (by decide) ?_ ?_⟩
    ·(iterate 2 ((try simp (etaStruct := .none) only [push_cast, DrawG, seval, hS, List.map_append, ordI, List.map_cons, List.map_nil, i64P]); (try (refine xsu ?_; try exact xtI))))
    ·(iterate 2 ((try simp (etaStruct := .none) only [push_cast, DrawG, seval, getD_in _ _ _ hlt, ordP]); (try (refine xsu ?_; try exact xtI))))
   ·(try replace h2 := xhh h2)
    obtain rfl : k = l.length := by omega
    (iterate 2 ((try simp (etaStruct := .none) only [push_cast, DrawG, seval, List.take_length]); (try (refine xsu ?_; try exact xtI))))
    refine callB (PA) (WkL.refl _) rfl ?_
    (iterate 2 ((try simp (etaStruct := .none) only [push_cast, DrawG, seval, List.take_length]); (try (refine xsu ?_; try exact xtI))))
    refine cond_i (fun h3 => ?_) (fun h3 => ?_)
    ·(try replace h3 := xhh h3)
     simp at h3
    ·(try replace h3 := xhh h3)
     (iterate 2 ((try simp (etaStruct := .none) only [push_cast, DrawG, seval, List.take_length]); (try (refine xsu ?_; try exact xtI))))
     refine caP (CS) ?_
     (iterate 2 ((try simp (etaStruct := .none) only [push_cast, DrawG, seval, List.take_length]); (try (refine xsu ?_; try exact xtI))))
     exact xrz rfl
 ·have hV : writeV l = (⟨#[]⟩, ordsE l) := if_pos h0
  rw [hV]
  generalize ordsE l = e at *
  refine spec_am Tryz.func22 rfl rfl mix 49 rfl [.tmp 2, .tmp 3] Tryz.results22 (Nat.le_of_ble_eq_true rfl) ?_
  (try (refine xst ?_; try exact xtI))
  refine caP (OA) ?_
  (try (refine xst ?_; try exact xtI))
  refine cond_i (fun h1 => ?_) (fun h1 => ?_)
  ·(try replace h1 := xhh h1)
   (try (refine xst ?_; try exact xtI))
   exact xrz rfl
  ·(try replace h1 := xhh h1)
   exact absurd h1 h0
theorem packed_step (l : List Ord) (k j : Nat) (hk : k < l.length) (hj : j < 6) : (⟨(paK (ordsI l) (6 * k + j)).toArray⟩ : ByteArray) ++ packS (foldN ((ordI (l.getD k default)).getD j default)) = ⟨(paK (ordsI l) (6 * k + (j + 1))).toArray⟩ := by
 have hl := ordsI_len l
 have hlt : 6 * k + j < (ordsI l).length := by omega
 have e := ordsI_at l k j hk hj
 rw [List.getElem?_eq_getElem hlt] at e
 have e2 : (ordI (l.getD k default)).getD j default = (ordsI l)[6 * k + j] := by
  rw [List.getD_eq_getElem?_getD, ← e]; rfl
 rw [e2, ← Nat.add_assoc, paK_succ _ _ hlt]
 exact bs_append _ _
theorem rwrite_s (l : List Ord) (hl : l.length ≤ 9223372036854775807) : Spec Tryz.prog 17 [.c (.sl 6 (l.map ordP))] [] (.tup [S (writeV l).1, I .i64 (writeV l).2]) [] := by
 have OA := orights_s l hl
 by_cases h0 : ordsE l = 0
 ·obtain ⟨hl100, hok⟩ := ordsE_ok h0
  have hV : writeV l = (writeT l, 0) := if_neg (by simp [h0])
  obtain ⟨T, hT⟩ : ∃ T : Nat → ByteArray, T = fun q => ⟨(paK (ordsI l) q).toArray⟩ := ⟨_, rfl⟩
  have hT0 : packS (6 * l.length) = T 0 := by
   rw [hT]
   simp only [paK, List.take_zero, List.flatMap_nil, List.append_nil, ordsI_len]; rfl
  have hTs : ∀ k j, k < l.length → j < 6 → T (6 * k + j) ++ packS (foldN ((ordI (l.getD k default)).getD j default)) = T (6 * k + (j + 1)) := by
   intro k j hk hj
   rw [hT]
   exact packed_step l k j hk hj
  have hTz : ∀ q, (T q).size ≤ 10 + 10 * q := by
   intro q
   rw [hT]
   simp only [bs_size]
   exact paK_len _ _
  have hP := rpacked_s (6 * l.length) (by omega)
  rw [hT0] at hP
  have hz := hTz (6 * l.length)
  have CS := rsealed_s (T (6 * l.length)) (by omega)
  have hw : sealS (T (6 * l.length)) = writeT l := by rw [hT]; rfl
  rw [hw] at CS
  rw [hV]
  rw [h0] at OA
  have w1 : IntKind.u64.wrap (6 * (l.length : Int)) = 6 * (l.length : Int) := by simp [IntKind.wrap, IntKind.bits, IntKind.signed]; omega
  clear hV hw hT hT0 hz
  refine spec_am Tryz.func17 rfl rfl mix 55 rfl [.tmp 2, .tmp 3] Tryz.results17 (Nat.le_of_ble_eq_true rfl) ?_
  (try (refine xst ?_; try exact xtI))
  refine caP (OA) ?_
  (try (refine xst ?_; try exact xtI))
  refine cond_i (fun h1 => ?_) (fun h1 => ?_)
  ·(try replace h1 := xhh h1)
   simp at h1
  ·(try replace h1 := xhh h1)
   (iterate 2 ((try simp (etaStruct := .none) only [push_cast, DrawG, seval, w1]); (try (refine xsu ?_; try exact xtI))))
   refine caP (hP) ?_
   (iterate 2 ((try simp (etaStruct := .none) only [push_cast, DrawG, seval, w1]); (try (refine xsu ?_; try exact xtI))))
   refine loopI (fun k : Nat => ⟨[(22, I .i64 k), (21, I .i64 l.length), (20, .c (.sl 6 (l.map ordP))), (5, S (T (6 * k)))], [], 0⟩) (fun k : Nat => k ≤ l.length) (fun k : Nat => l.length - k) (0) (Nat.zero_le _) (To.mk [] rfl rfl List.nodup_nil trivial ?_) ?_
   ·simp (etaStruct := .none) only [push_cast, DrawG, seval]
   rintro k hk
   (iterate 2 ((try simp (etaStruct := .none) only [push_cast, DrawG, seval, w1]); (try (refine xsu ?_; try exact xtI))))
   refine cond_i (fun h2 => ?_) (fun h2 => ?_)
   ·(try replace h2 := xhh h2)
    have hlt : k < l.length := by omega
    have hx : ∀ j, j < 6 → I64 ((ordI (l.getD k default)).getD j default) := by
     intro j hj
     refine ordI_64 (hok (l.getD k default) (by rw [getD_at _ _ hlt]; exact List.getElem_mem hlt)) _ ?_
     generalize l.getD k default = o
     have hjl : j < (ordI o).length := hj
     rw [List.getD_eq_getElem?_getD, List.getElem?_eq_getElem hjl]
     exact List.getElem_mem _
    (iterate 2 ((try simp (etaStruct := .none) only [push_cast, DrawG, seval, w1, getD_in _ _ _ hlt, ordP]); (try (refine xsu ?_; try exact xtI))))
    refine loopI (fun j : Nat => ⟨[(42, I .i64 j), (41, I .i64 6), (40, .own 0), (22, I .i64 k), (21, I .i64 l.length), (20, .c (.sl 6 (l.map ordP))), (5, S (T (6 * k + j)))], [(0, .row 3 1 ((ordI (l.getD k default)).map i64P))], 1⟩) (fun j : Nat => j ≤ 6) (fun j : Nat => 6 - j) (0) (Nat.zero_le _) (To.mk [1] rfl rfl (by decide) ?_ ?_) ?_
    ·simp (etaStruct := .none) only [push_cast, DrawG, seval, ordI, List.map_cons, List.map_nil, i64P]
    ·simp (etaStruct := .none) only [push_cast, DrawG, seval]
    rintro j hj
    (iterate 2 ((try simp (etaStruct := .none) only [push_cast, DrawG, seval, w1, getD_in _ _ _ hlt, ordP]); (try (refine xsu ?_; try exact xtI))))
    refine cond_i (fun h3 => ?_) (fun h3 => ?_)
    ·(try replace h3 := xhh h3)
     have hjt : j < 6 := by omega
     have hjl : j < (ordI (l.getD k default)).length := hjt
     have hs := hTs k j hlt hjt
     have z1 := hTz (6 * k + j)
     have z2 := (packS_size (foldN ((ordI (l.getD k default)).getD j default))).2
     (iterate 2 ((try simp (etaStruct := .none) only [push_cast, DrawG, seval, w1, getD_in _ _ _ hlt, ordP, getD_in _ _ _ hjl, i64P]); (try (refine xsu ?_; try exact xtI))))
     refine caP (rfolded_s _ (hx j hjt)) ?_
     (iterate 2 ((try simp (etaStruct := .none) only [push_cast, DrawG, seval, w1, getD_in _ _ _ hlt, ordP, getD_in _ _ _ hjl, i64P]); (try (refine xsu ?_; try exact xtI))))
     refine caP (rpacked_s _ (foldN_lt _ (hx j hjt))) ?_
     (iterate 2 ((try simp (etaStruct := .none) only [push_cast, DrawG, seval, w1, getD_in _ _ _ hlt, ordP, getD_in _ _ _ hjl, i64P]); (try (refine xsu ?_; try exact xtI))))
     refine ⟨j + 1, by omega, by omega, To.mk [0] rfl rfl (by decide) ?_ ?_⟩
     ·(iterate 2 ((try simp (etaStruct := .none) only [push_cast, DrawG, seval, w1, getD_in _ _ _ hlt, ordP, getD_in _ _ _ hjl, i64P]); (try (refine xsu ?_; try exact xtI))))
     ·(iterate 2 ((try simp (etaStruct := .none) only [push_cast, DrawG, seval, hs]); (try (refine xsu ?_; try exact xtI))))
    ·(try replace h3 := xhh h3)
     obtain rfl : j = 6 := by omega
     have hTe : T (6 * k + 6) = T (6 * (k + 1)) := by rw [show 6 * (k + 1) = 6 * k + 6 from by omega]
     (iterate 2 ((try simp (etaStruct := .none) only [push_cast, DrawG, seval, w1, getD_in _ _ _ hlt, ordP]); (try (refine xsu ?_; try exact xtI))))
     refine ⟨k + 1, by omega, by omega, To.mk [] rfl rfl List.nodup_nil trivial ?_⟩
     ·(iterate 2 ((try simp (etaStruct := .none) only [push_cast, DrawG, seval, hTe]); (try (refine xsu ?_; try exact xtI))))
   ·(try replace h2 := xhh h2)
    obtain rfl : k = l.length := by omega
    (iterate 2 ((try simp (etaStruct := .none) only [push_cast, DrawG, seval, w1]); (try (refine xsu ?_; try exact xtI))))
    refine caP (CS) ?_
    (iterate 2 ((try simp (etaStruct := .none) only [push_cast, DrawG, seval, w1]); (try (refine xsu ?_; try exact xtI))))
    exact xrz rfl
 ·have hV : writeV l = (⟨#[]⟩, ordsE l) := if_pos h0
  rw [hV]
  generalize ordsE l = e at *
  refine spec_am Tryz.func17 rfl rfl mix 55 rfl [.tmp 2, .tmp 3] Tryz.results17 (Nat.le_of_ble_eq_true rfl) ?_
  (try (refine xst ?_; try exact xtI))
  refine caP (OA) ?_
  (try (refine xst ?_; try exact xtI))
  refine cond_i (fun h1 => ?_) (fun h1 => ?_)
  ·(try replace h1 := xhh h1)
   (try (refine xst ?_; try exact xtI))
   exact xrz rfl
  ·(try replace h1 := xhh h1)
   exact absurd h1 h0
def txtV (ts : List (List Ord)) : List ByteArray := ts.map fun l => (writeV l).1
theorem txtV_len (ts : List (List Ord)) : (txtV ts).length = ts.length := by simp [txtV]
theorem txtV_ok (ts : List (List Ord)) : strsOk (txtV ts) := fun s hs => by
 obtain ⟨l, _, rfl⟩ := List.mem_map.1 hs
 unfold writeV
 split
 ·simp [ByteArray.size]
 ·rename_i h
  have := writeT_size l (ordsE_ok (by simpa using h)).1
  show (writeT l).size ≤ _
  omega
theorem txtV_snoc (ts : List (List Ord)) (k : Nat) (h : k < ts.length) : txtV (ts.take (k + 1)) = txtV (ts.take k) ++ [(writeV (ts.getD k default)).1] := by
 unfold txtV; rw [take_snoc _ _ h, List.map_append]; rfl
theorem txtV_nil : txtV [] = [] := rfl
theorem texts_s (ts : List (List Ord)) (hn : ts.length ≤ 1000000) (hin : ∀ l ∈ ts, l.length ≤ 9223372036854775807) : Spec Tryz.prog 14 [.c (.sl 1 (ts.map ordsP))] [] (.c (.sl 1 ((txtV ts).map strP))) [] := by
 refine spec_am Tryz.func14 rfl rfl mix 25 rfl [.tmp 2] Tryz.results14 (Nat.le_of_ble_eq_true rfl) ?_
 (try (refine xst ?_; try exact xtI))
 refine loopI (fun k : Nat => ⟨[(10, I .i64 k), (9, I .i64 ts.length), (8, .c (.sl 1 (ts.map ordsP))), (3, .own 0)], [(0, .row 9 1 ((txtV (ts.take k)).map strP))], 1⟩) (fun k : Nat => k ≤ ts.length) (fun k : Nat => ts.length - k) (0) (Nat.zero_le _) ((To.nil 3 9 1 rfl).trans (To.mk [0] rfl rfl (by decide) ?_ ?_)) ?_
 ·simp (etaStruct := .none) only [push_cast, DrawG, seval, txtV_nil, List.map_nil]
 ·simp (etaStruct := .none) only [push_cast, DrawG, seval]
 rintro k hk
 (try (refine xst ?_; try exact xtI))
 refine cond_i (fun h1 => ?_) (fun h1 => ?_)
 ·(try replace h1 := xhh h1)
  have hlt : k < ts.length := by omega
  have hsn := txtV_snoc ts k hlt
  have htl : (txtV (ts.take k)).length = k := by rw [txtV_len, List.length_take]; omega
  (iterate 2 ((try simp (etaStruct := .none) only [push_cast, DrawG, seval, getD_in _ _ _ hlt, ordsP, htl]); (try (refine xsu ?_; try exact xtI))))
  refine caP (owrite_s (ts.getD k default) (hin _ (by rw [getD_at _ _ hlt]; exact List.getElem_mem hlt))) ?_
  (iterate 2 ((try simp (etaStruct := .none) only [push_cast, DrawG, seval, getD_in _ _ _ hlt, ordsP, htl]); (try (refine xsu ?_; try exact xtI))))
  refine ⟨k + 1, by omega, by omega, To.mk [2] rfl rfl (by decide) ?_ ?_⟩
  ·simp (etaStruct := .none) only [push_cast, DrawG, seval, hsn, List.map_append, List.map_cons, List.map_nil, strP]
  ·(iterate 2 ((try simp (etaStruct := .none) only [push_cast, DrawG, seval, getD_in _ _ _ hlt, ordsP, htl]); (try (refine xsu ?_; try exact xtI))))
 ·(try replace h1 := xhh h1)
  obtain rfl : k = ts.length := by omega
  (iterate 2 ((try simp (etaStruct := .none) only [push_cast, DrawG, seval, List.take_length]); (try (refine xsu ?_; try exact xtI))))
  exact xrz rfl
theorem turnTexts_s (s : Sty) (hn : s.turns.length ≤ 1000000) (hin : ∀ l ∈ s.turns, l.length ≤ 9223372036854775807) : Spec Tryz.prog 7 [styA s] [] (.c (.sl 1 ((txtV s.turns).map strP))) [] := by
 refine spec_am Tryz.func7 rfl rfl mix 26 rfl [.tmp 2] Tryz.results7 (Nat.le_of_ble_eq_true rfl) ?_
 (try (refine xst ?_; try exact xtI))
 refine loopI (fun k : Nat => ⟨[(11, I .i64 k), (10, I .i64 s.turns.length), (9, .c (.sl 1 (s.turns.map ordsP))), (3, .own 0)], [(0, .row 9 1 ((txtV (s.turns.take k)).map strP))], 1⟩) (fun k : Nat => k ≤ s.turns.length) (fun k : Nat => s.turns.length - k) (0) (Nat.zero_le _) ((To.nil 3 9 1 rfl).trans (To.mk [1] rfl rfl (by decide) ?_ ?_)) ?_
 ·simp (etaStruct := .none) only [push_cast, DrawG, seval, txtV_nil, List.map_nil]
 ·simp (etaStruct := .none) only [push_cast, DrawG, seval]
 rintro k hk
 (try (refine xst ?_; try exact xtI))
 refine cond_i (fun h1 => ?_) (fun h1 => ?_)
 ·(try replace h1 := xhh h1)
  have hlt : k < s.turns.length := by omega
  have hsn := txtV_snoc s.turns k hlt
  have htl : (txtV (s.turns.take k)).length = k := by rw [txtV_len, List.length_take]; omega
  (iterate 2 ((try simp (etaStruct := .none) only [push_cast, DrawG, seval, getD_in _ _ _ hlt, ordsP, htl]); (try (refine xsu ?_; try exact xtI))))
  refine caP (rwrite_s (s.turns.getD k default) (hin _ (by rw [getD_at _ _ hlt]; exact List.getElem_mem hlt))) ?_
  (iterate 2 ((try simp (etaStruct := .none) only [push_cast, DrawG, seval, getD_in _ _ _ hlt, ordsP, htl]); (try (refine xsu ?_; try exact xtI))))
  refine ⟨k + 1, by omega, by omega, To.mk [2] rfl rfl (by decide) ?_ ?_⟩
  ·simp (etaStruct := .none) only [push_cast, DrawG, seval, hsn, List.map_append, List.map_cons, List.map_nil, strP]
  ·(iterate 2 ((try simp (etaStruct := .none) only [push_cast, DrawG, seval, getD_in _ _ _ hlt, ordsP, htl]); (try (refine xsu ?_; try exact xtI))))
 ·(try replace h1 := xhh h1)
  obtain rfl : k = s.turns.length := by omega
  (iterate 2 ((try simp (etaStruct := .none) only [push_cast, DrawG, seval, List.take_length]); (try (refine xsu ?_; try exact xtI))))
  exact xrz rfl
def rootN (l : List ByteArray) : Nat := rt pairN (l.map leafN)
theorem treeRoot_s (l : List ByteArray) (hl : l.length ≤ 256) (hs : strsOk l) : Spec Tryz.prog 13 [.c (.sl 1 (l.map strP))] [] (.tup [.c (.v (.int .u64 (rootN l : Nat))), I .i64 0]) [] := by
 refine spec_am Tryz.func13 rfl rfl mix 9 rfl [.tmp 2, .tmp 3] Tryz.results13 (Nat.le_of_ble_eq_true rfl) ?_
 (try (refine xst ?_; try exact xtI))
 refine cond_i (fun h1 => ?_) (fun h1 => ?_)
 ·(try replace h1 := xhh h1)
  omega
 ·(try replace h1 := xhh h1)
  (try (refine xst ?_; try exact xtI))
  refine caP (root_s l.length l (Nat.le_refl _) hl hs) ?_
  (try (refine xst ?_; try exact xtI))
  (first | (refine retA rfl (Wk.of ?_); (try simp (etaStruct := .none) only [push_cast, DrawG, seval]); first | done | (simp [rootN, *]; done) | (simp_all [rootN]; done)) | (refine retA rfl ?_; (try simp (etaStruct := .none) only [push_cast, DrawG, seval]); (try simp [rootN, *]); (try exact wkc)))
theorem rootOf_s (l : List ByteArray) (h256 : l.length ≤ 256) (hs : strsOk l) : Spec Tryz.prog 9 [.c (.sl 1 (l.map strP))] [] (.c (.v (.int .u64 (rootN l : Nat)))) [] := by
 refine spec_am Tryz.func9 rfl rfl mix 61 rfl [.tmp 2] Tryz.results9 (Nat.le_of_ble_eq_true rfl) ?_
 (try (refine xst ?_; try exact xtI))
 refine loopI (fun k : Nat => ⟨[(10, I .i64 k), (9, I .i64 l.length), (8, .c (.sl 1 (l.map strP))), (3, .own 0)], [(0, .row 32 1 (((l.take k).map leafN).map u64P))], 1⟩) (fun k : Nat => k ≤ l.length) (fun k : Nat => l.length - k) (0) (Nat.zero_le _) ((To.nil 3 32 1 rfl).trans (To.mk [0] rfl rfl (by decide) ?_ ?_)) ?_
 ·simp (etaStruct := .none) only [push_cast, DrawG, seval]
 ·simp (etaStruct := .none) only [push_cast, DrawG, seval]
 rintro k hk
 (try (refine xst ?_; try exact xtI))
 refine cond_i (fun h1 => ?_) (fun h1 => ?_)
 ·(try replace h1 := xhh h1)
  have hlt : k < l.length := by omega
  (iterate 2 ((try simp (etaStruct := .none) only [push_cast, DrawG, seval, getD_in _ _ _ hlt, strP]); (try (refine xsu ?_; try exact xtI))))
  have ts := take_snoc l k hlt
  refine caP (leafOf_s (l.getD k default) (hs _ (by rw [getD_at _ _ hlt]; exact List.getElem_mem hlt))) ?_
  (iterate 2 ((try simp (etaStruct := .none) only [push_cast, DrawG, seval, getD_in _ _ _ hlt, strP]); (try (refine xsu ?_; try exact xtI))))
  refine ⟨k + 1, by omega, by omega, To.mk [2] rfl rfl (by decide) ?_ ?_⟩
  ·(iterate 2 ((try simp (etaStruct := .none) only [push_cast, DrawG, seval, ts, List.map_append, u64P]); (try (refine xsu ?_; try exact xtI))))
  ·(iterate 2 ((try simp (etaStruct := .none) only [push_cast, DrawG, seval, getD_in _ _ _ hlt, strP]); (try (refine xsu ?_; try exact xtI))))
 ·(try replace h1 := xhh h1)
  obtain rfl : k = l.length := by omega
  (iterate 2 ((try simp (etaStruct := .none) only [push_cast, DrawG, seval, List.take_length]); (try (refine xsu ?_; try exact xtI))))
  have LN : ∀ y ∈ l.map leafN, y < 18446744073709551616 := fun y hy => by obtain ⟨s, _, rfl⟩ := List.mem_map.1 hy; exact leafN_lt s
  refine loopI (fun M : List Nat => ⟨[(3, .own 0)], [(0, .row 32 1 (M.map u64P))], 1⟩) (fun M : List Nat => M.length ≤ 256 ∧ (∀ y ∈ M, y < 18446744073709551616) ∧ rt pairN M = rootN l) (fun M : List Nat => M.length) (l.map leafN) (⟨by simp only [List.length_map]; exact h256, LN, rfl⟩) (To.mk [0] rfl rfl (by decide) ?_ ?_) ?_
  ·simp (etaStruct := .none) only [push_cast, DrawG, seval]
  ·simp (etaStruct := .none) only [push_cast, DrawG, seval]
  rintro M ⟨p1, p2, p4⟩
  have LL := lvl_len pairN M
  (iterate 2 ((try simp (etaStruct := .none) only [push_cast, DrawG, seval, List.take_length]); (try (refine xsu ?_; try exact xtI))))
  refine cond_i (fun h2 => ?_) (fun h2 => ?_)
  ·(try replace h2 := xhh h2)
   (iterate 2 ((try simp (etaStruct := .none) only [push_cast, DrawG, seval, List.take_length]); (try (refine xsu ?_; try exact xtI))))
   refine loopI (fun y : Nat × List Nat => ⟨[(7, I .i64 y.1), (6, .own 1), (3, .own 0)], [(0, .row 32 1 (M.map u64P)), (1, .row 32 1 (y.2.map u64P))], 2⟩) (fun y : Nat × List Nat => y.1 ≤ M.length + 1 ∧ y.2.length ≤ 256 ∧ y.2 ++ lvl pairN (M.drop y.1) = lvl pairN M) (fun y : Nat × List Nat => M.length + 1 - y.1) ((0, [])) (⟨by simp only; omega, by simp, rfl⟩) ((To.nil 6 32 1 rfl).trans (To.mk [0, 1] rfl rfl (by decide) ?_ ?_)) ?_
   ·simp (etaStruct := .none) only [push_cast, DrawG, seval]
   ·simp (etaStruct := .none) only [push_cast, DrawG, seval]
   rintro ⟨k, U⟩ ⟨q1, q2, q3⟩
   simp only at q1 q2 q3
   (iterate 2 ((try simp (etaStruct := .none) only [push_cast, DrawG, seval, List.take_length]); (try (refine xsu ?_; try exact xtI))))
   refine cond_i (fun h3 => ?_) (fun h3 => ?_)
   ·(try replace h3 := xhh h3)
    have hlt : k < M.length := by omega
    have d1 := drop_at M k hlt
    have m1 := p2 _ (getD_mem M k hlt)
    have e2 : ((k + 2 : Nat) : Int) = (k : Int) + 2 := by omega
    (iterate 2 ((try simp (etaStruct := .none) only [push_cast, DrawG, seval, List.take_length, e2, getD_in _ _ _ hlt, u64P]); (try (refine xsu ?_; try exact xtI))))
    refine cond_i (fun h4 => ?_) (fun h4 => ?_)
    ·(try replace h4 := xhh h4)
     have hlt2 : k + 1 < M.length := by omega
     have d2 := drop_at M (k + 1) hlt2
     have m2 := p2 _ (getD_mem M (k + 1) hlt2)
     have e3 : ((k : Int) + 1).toNat = k + 1 := by omega
     (iterate 2 ((try simp (etaStruct := .none) only [push_cast, DrawG, seval, List.take_length, e2, getD_in _ _ _ hlt, u64P, e3, getD_in _ _ _ hlt2]); (try (refine xsu ?_; try exact xtI))))
     refine caP (pairOf_s _ _ m1 m2) ?_
     (iterate 2 ((try simp (etaStruct := .none) only [push_cast, DrawG, seval, List.take_length, e2, getD_in _ _ _ hlt, u64P, e3, getD_in _ _ _ hlt2]); (try (refine xsu ?_; try exact xtI))))
     (try (refine ⟨by kernel_rfl, ?_⟩))
     (iterate 2 ((try simp (etaStruct := .none) only [push_cast, DrawG, seval, List.take_length, e2, getD_in _ _ _ hlt, u64P, e3, getD_in _ _ _ hlt2]); (try (refine xsu ?_; try exact xtI))))
     refine ⟨(k + 2, U ++ [pairN (M.getD k default) (M.getD (k + 1) default)]), ⟨by simp only; omega, by
 have := congrArg List.length q3
 rw [d1, d2, lvl] at this
 simp at this ⊢; omega, by
 rw [← q3, d1, d2, lvl]; simp⟩, by simp only; omega, To.mk [0, 50] rfl rfl (by decide) ?_ ?_⟩
     ·(iterate 2 ((try simp (etaStruct := .none) only [push_cast, DrawG, seval, List.map_append, u64P]); (try (refine xsu ?_; try exact xtI))))
     ·(iterate 2 ((try simp (etaStruct := .none) only [push_cast, DrawG, seval, List.take_length, e2, getD_in _ _ _ hlt, u64P, e3, getD_in _ _ _ hlt2]); (try (refine xsu ?_; try exact xtI))))
    ·(try replace h4 := xhh h4)
     have d2 : M.drop (k + 1) = [] := List.drop_eq_nil_of_le (by omega)
     (iterate 2 ((try simp (etaStruct := .none) only [push_cast, DrawG, seval, List.take_length, e2, getD_in _ _ _ hlt, u64P]); (try (refine xsu ?_; try exact xtI))))
     refine ⟨(k + 2, U ++ [M.getD k default]), ⟨by simp only; omega, by
 have := congrArg List.length q3
 rw [d1, d2, lvl] at this
 simp at this ⊢; omega, by
 rw [← q3, d1, d2, lvl, List.drop_eq_nil_of_le (by simp only; omega), lvl]; simp⟩, by simp only; omega, To.mk [0, 3] rfl rfl (by decide) ?_ ?_⟩
     ·(iterate 2 ((try simp (etaStruct := .none) only [push_cast, DrawG, seval, List.map_append, u64P]); (try (refine xsu ?_; try exact xtI))))
     ·(iterate 2 ((try simp (etaStruct := .none) only [push_cast, DrawG, seval, List.take_length, e2, getD_in _ _ _ hlt, u64P]); (try (refine xsu ?_; try exact xtI))))
   ·(try replace h3 := xhh h3)
    have qU : U = lvl pairN M := by rw [List.drop_eq_nil_of_le (by omega), lvl, List.append_nil] at q3; exact q3
    subst qU
    (iterate 2 ((try simp (etaStruct := .none) only [push_cast, DrawG, seval, List.take_length]); (try (refine xsu ?_; try exact xtI))))
    refine ⟨lvl pairN M, ⟨by omega, lvlN_lt M p2, by rw [rt_lvl]; exact p4⟩, by omega, To.mk [1] rfl rfl (by decide) ?_ ?_⟩
    ·(iterate 2 ((try simp (etaStruct := .none) only [push_cast, DrawG, seval, List.take_length]); (try (refine xsu ?_; try exact xtI))))
    ·(iterate 2 ((try simp (etaStruct := .none) only [push_cast, DrawG, seval, List.take_length]); (try (refine xsu ?_; try exact xtI))))
  ·(try replace h2 := xhh h2)
   (iterate 2 ((try simp (etaStruct := .none) only [push_cast, DrawG, seval, List.take_length]); (try (refine xsu ?_; try exact xtI))))
   refine cond_i (fun h5 => ?_) (fun h5 => ?_)
   ·(try replace h5 := xhh h5)
    have hM : M = [] := List.length_eq_zero_iff.1 (by omega)
    subst hM
    have e0 : rootN l = 0 := by rw [← p4]; rfl
    (iterate 2 ((try simp (etaStruct := .none) only [push_cast, DrawG, seval, List.take_length]); (try (refine xsu ?_; try exact xtI))))
    (first | (refine retA rfl (Wk.of ?_); (try simp (etaStruct := .none) only [push_cast, DrawG, seval]); first | done | (simp [e0, *]; done) | (simp_all [e0]; done)) | (refine retA rfl ?_; (try simp (etaStruct := .none) only [push_cast, DrawG, seval]); (try simp [e0, *]); (try exact wkc)))
   ·(try replace h5 := xhh h5)
    obtain ⟨a, rfl⟩ : ∃ a, M = [a] := List.length_eq_one_iff.1 (by omega)
    have e0 : rootN l = a := by rw [← p4]; rfl
    (iterate 2 ((try simp (etaStruct := .none) only [push_cast, DrawG, seval, List.take_length, u64P]); (try (refine xsu ?_; try exact xtI))))
    (first | (refine retA rfl (Wk.of ?_); (try simp (etaStruct := .none) only [push_cast, DrawG, seval]); first | done | (simp [e0, *]; done) | (simp_all [e0]; done)) | (refine retA rfl ?_; (try simp (etaStruct := .none) only [push_cast, DrawG, seval]); (try simp [e0, *]); (try exact wkc)))
end Go.Proofs.YtllmjdcblfkfaaaGreat
namespace Go.Proofs.YtllmjdcblfkfaaaGreat
set_option linter.all false
open Go.RowKit Go.ChangeShapes Go.WideShapes Go.ChangeAt
def RelCs (w : World) (ps : List PV) (cs : List Value) : Prop := ∀ (j : Nat) p u, ps[j]? = some p → cs[j]? = some u → RelP w (· < w.heap.size) p u
theorem RelCs.nil {w : World} : RelCs w [] [] := fun j p u h => by simp at h
theorem RelCs.cons {w : World} {p : PV} {u : Value} {ps : List PV} {cs : List Value} (h : RelP w (· < w.heap.size) p u) (h' : RelCs w ps cs) : RelCs w (p :: ps) (u :: cs) := by
 intro j q v h1 h2
 cases j with
 | zero => simp at h1 h2; subst h1 h2; exact h
 | succ j => exact h' j q v (by simpa using h1) (by simpa using h2)
theorem RelCs.append {w : World} : ∀ {ps qs : List PV} {cs ds : List Value}, ps.length = cs.length → RelCs w ps cs → RelCs w qs ds → RelCs w (ps ++ qs) (cs ++ ds)
 | [], _, [], _, _, _, h => h
 | [], _, _ :: _, _, hl, _, _ => by simp at hl
 | _ :: _, _, [], _, hl, _, _ => by simp at hl
 | p :: ps, qs, c :: cs, ds, hl, h, h' => by
  refine RelCs.cons (h 0 p c rfl rfl) (RelCs.append (by simpa using hl) (fun j q v h1 h2 => h (j + 1) q v (by simpa using h1) (by simpa using h2)) h')
def OpA (P : Program) (T sz : Nat) (w : World) {α : Type} (pv : α → List PV) (ok : α → Prop) : Prop :=
 ∃ (β : Type) (enc : β → List Value) (okb : β → Prop) (f : β → α), Opens P T sz w enc okb ∧ ∀ y, okb y → ok (f y) ∧ (pv (f y)).length = sz ∧ (enc y).length = sz ∧ RelCs w (pv (f y)) (enc y)
section
variable {P : Program} {T : Nat} {w : World}
theorem OpA.i64 (h : P.underlying T = some (.int .i64)) : OpA P T 1 w i64P In64 :=
 ⟨_, _, _, id, Opens.i64 h, fun y hy => ⟨hy, rfl, rfl, .cons (relP_v rfl) .nil⟩⟩
theorem OpA.u64 (h : P.underlying T = some (.int .u64)) : OpA P T 1 w u64P (fun n => n < 18446744073709551616) :=
 ⟨_, _, _, id, Opens.u64 h, fun y hy => ⟨hy, rfl, rfl, .cons (relP_v rfl) .nil⟩⟩
def u32P (n : Nat) : List PV := [.v (.int .u32 n)]
theorem OpA.u32 (h : P.underlying T = some (.int .u32)) : OpA P T 1 w u32P (fun n => n < 4294967296) :=
 ⟨_, _, _, id, Opens.u32 h, fun y hy => ⟨hy, rfl, rfl, .cons (relP_v rfl) .nil⟩⟩
theorem OpA.bool (h : P.underlying T = some .bool) : OpA P T 1 w boolP (fun _ => True) :=
 ⟨_, _, _, id, Opens.bool h, fun y hy => ⟨hy, rfl, rfl, .cons (relP_v rfl) .nil⟩⟩
theorem OpA.str (h : P.underlying T = some .string) : OpA P T 1 w strP (fun s => s.size ≤ 140737488351232) :=
 ⟨_, _, _, id, Opens.str h, fun y hy => ⟨hy, rfl, rfl, .cons (relP_v rfl) .nil⟩⟩
theorem OpA.map {sz : Nat} {α β : Type} {pv : α → List PV} {ok : α → Prop} {pv' : β → List PV} {ok' : β → Prop} (h : OpA P T sz w pv ok) (f : α → β) (hf : ∀ x, pv' (f x) = pv x) (hok : ∀ x, ok x → ok' (f x)) : OpA P T sz w pv' ok' := by
 obtain ⟨γ, enc, okb, g, h1, h2⟩ := h
 exact ⟨γ, enc, okb, fun y => f (g y), h1, fun y hy => by obtain ⟨a, b, c, d⟩ := h2 y hy; exact ⟨hok _ a, by rw [hf]; exact b, c, by rw [hf]; exact d⟩⟩
theorem OpA.slice {E sz bts : Nat} {α : Type} {pv : α → List PV} {ok : α → Prop} (hT : P.underlying T = some (.slice E)) (hc : P.cellsOf E = sz) (hsz : 0 < sz) (hby : P.bytesOf E = bts) (hE : OpA P E sz w pv ok) :
 OpA P T 1 w (fun xs : List α => [.sl sz (xs.map pv)]) (fun xs => (∀ x ∈ xs, ok x) ∧ xs.length * bts ≤ 140737488351232 ∧ xs.length ≤ 9223372036854775807) := by
 obtain ⟨γ, enc, okb, g, h1, h2⟩ := hE
 refine ⟨_, _, _, fun s => s.xs.map g, Opens.slice hT hc hsz hby h1, fun s hs => ⟨⟨?_, ?_, ?_⟩, rfl, rfl, ?_⟩⟩
 ·intro x hx
  obtain ⟨y, hy, rfl⟩ := List.mem_map.1 hx
  exact (h2 y (hs.each y hy).1).1
 ·have := hs.reach
  have h3 : s.xs.length * bts ≤ s.c * bts := Nat.mul_le_mul_right _ hs.cap
  simp only [List.length_map]; omega
 ·have h3 := hs.cap; have h4 := hs.max; unfold maxLen at h4; simp only [List.length_map]; omega
 ·refine .cons ?_ .nil
  have := rel_sl (pv := fun y => pv (g y)) hs fun y hy ho => by
   obtain ⟨_, a, b, d⟩ := h2 y ho
   exact ⟨a, d⟩
  simpa [List.map_map, Function.comp_def] using this
def OpAF (P : Program) (w : World) (fs : List Field) (o sz : Nat) {α : Type} (pv : α → List PV) (ok : α → Prop) : Prop :=
 ∃ (β : Type) (enc : β → List Value) (okb : β → Prop) (f : β → α), OpensF P w fs o sz enc okb ∧ ∀ y, okb y → ok (f y) ∧ (pv (f y)).length = sz ∧ (enc y).length = sz ∧ RelCs w (pv (f y)) (enc y)
theorem OpAF.nil {o : Nat} : OpAF P w [] o 0 (fun _ : Unit => []) (fun _ => True) :=
 ⟨_, _, _, id, OpensF.nil, fun y hy => ⟨trivial, rfl, rfl, .nil⟩⟩
theorem OpAF.cons {f : Field} {fs : List Field} {o n sz : Nat} {α β : Type} {pv : α → List PV} {ok : α → Prop} {pv' : β → List PV} {ok' : β → Prop}
 (ho : f.offset = o) (hn : P.cellsOf f.type = n) (h : OpA P f.type n w pv ok) (h' : OpAF P w fs (o + n) sz pv' ok') :
 OpAF P w (f :: fs) o (n + sz) (fun x : α × β => pv x.1 ++ pv' x.2) (fun x => ok x.1 ∧ ok' x.2) := by
 obtain ⟨γ, enc, okb, g, h1, h2⟩ := h
 obtain ⟨γ', enc', okb', g', h1', h2'⟩ := h'
 refine ⟨_, _, _, fun y => (g y.1, g' y.2), OpensF.cons ho hn h1 h1', fun y hy => ?_⟩
 obtain ⟨a, b, c, d⟩ := h2 y.1 hy.1
 obtain ⟨a', b', c', d'⟩ := h2' y.2 hy.2
 exact ⟨⟨a, a'⟩, by simp [b, b'], by simp [c, c'], .append (by rw [b, c]) d d'⟩
theorem OpA.struct {sz : Nat} {fs : Array Field} {α : Type} {pv : α → List PV} {ok : α → Prop} (hT : P.underlying T = some (.struct fs)) (hc : P.cellsOf T = sz) (h : OpAF P w fs.toList 0 sz pv ok) : OpA P T sz w pv ok := by
 obtain ⟨γ, enc, okb, g, h1, h2⟩ := h
 exact ⟨γ, enc, okb, g, Opens.struct hT hc h1, h2⟩
theorem OpA.arg {sz : Nat} {α : Type} {pv : α → List PV} {ok : α → Prop} (h : OpA P T sz w pv ok) {H : Type} {eH : TypeId × Value → H} {v : Value} {d : DataW H} {p : List MemPlace}
 (hT : DataW.Trod eH P w 0 (fun _ => true) true T v d p) {ts : List TypeId} {ds : List (DataW H)} (hz : (DataW.weightsEach P ts ds).all (· ≤ reachBytes) = true) (j : Nat) (h1 : ts[j]? = some T) (h2 : ds[j]? = some d) : ∃ x : α, ok x ∧ (pv x).length = v.cells.toList.length ∧ RelCs w (pv x) v.cells.toList := by
 obtain ⟨γ, enc, okb, g, k1, k2⟩ := h
 obtain ⟨y, hy, ho⟩ := Opens.arg k1 hT hz j h1 h2
 obtain ⟨a, b, c, e⟩ := k2 y ho
 exact ⟨g y, a, by rw [hy, b, c], by rw [hy]; exact e⟩
theorem rel_one {p : PV} {v : Value} (hv : v.cells = #[v]) (hr : RelCs w [p] v.cells.toList) : RelA (· < 0) w (· < w.heap.size) (fun _ => none) (.c p) v :=
 relA_c (hr 0 p v rfl (by rw [hv]; rfl))
theorem relL_of_cs {U : Nat → Prop} {β : Nat → Option Bind} : ∀ {ps : List PV} {cs : List Value}, ps.length = cs.length → RelCs w ps cs → RelL U w (· < w.heap.size) β (ps.map .c) cs
 | [], [], _, _ => relL_nil
 | [], _ :: _, h, _ => by simp at h
 | _ :: _, [], h, _ => by simp at h
 | p :: ps, c :: cs, h, hr => by
  rw [List.map_cons]
  exact relL_cons (relA_c (hr 0 p c rfl rfl)) (relL_of_cs (by simpa using h) fun j q v h1 h2 => hr (j + 1) q v (by simpa using h1) (by simpa using h2))
theorem rel_agg {ps : List PV} {v : Value} {cs : List Value} (hv : v = .agg cs.toArray) (hl : ps.length = v.cells.toList.length) (hr : RelCs w ps v.cells.toList) : RelA (· < 0) w (· < w.heap.size) (fun _ => none) (.agg (ps.map .c)) v := by
 subst hv
 have e : (Value.agg cs.toArray).cells.toList = cs := rfl
 rw [e] at hl hr
 refine relA_agg (relL_of_cs hl hr) fun x hx => ?_
 obtain ⟨j, hj, rfl⟩ := List.getElem_of_mem hx
 exact (hr j ps[j] cs[j] (by simp) (by simp)).one
theorem one_int {base : Nat} {k : IntKind} {v : Value} (ht : P.underlying T = some (.int k)) (h : Value.okWide P w .any base T v) : v.cells = #[v] := by obtain ⟨n, rfl⟩ := okWide_int ht h; rfl
end
end Go.Proofs.YtllmjdcblfkfaaaGreat
