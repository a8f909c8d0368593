/- Package crc over texts: More, Of, Seal, Open; the reference's CrcMore, Bytes, Sealed, Opened. -/
import Derived.Test.YtemogefcbemjfaaCrcW
namespace Go.Proofs.Ytemogefcbemjfaa
open Go.RowKit

/-- The bytes of a text, taken one by one. -/
def tks (n : Nat) (l : List UInt8) : Nat := l.foldl (fun n b => tk n b.toNat) n
theorem tks_lt (l : List UInt8) : ∀ n, n < 4294967296 → tks n l < 4294967296 := by
  induction l with
  | nil => intro n h; exact h
  | cons b l ih => intro n h; exact ih _ (tk_lt n _ h (UInt8.toNat_lt b))
theorem tks_snoc (n : Nat) (l : List UInt8) (b : UInt8) : tks n (l ++ [b]) = tk (tks n l) b.toNat := by simp [tks]
theorem tks_app (n : Nat) (l k : List UInt8) : tks n (l ++ k) = tks (tks n l) k := by simp [tks]
def crcM (n : Nat) (l : List UInt8) : Nat := 4294967295 - tks (4294967295 - n) l
theorem crcM_lt (n : Nat) (l : List UInt8) : crcM n l < 4294967296 := by unfold crcM; omega
theorem bytes_snoc (s : ByteArray) (k : Nat) (h : k < s.size) : s.data.toList.take (k + 1) = s.data.toList.take k ++ [s[k]] := by
  rw [List.take_succ_eq_append_getElem (by simpa using h)]; rfl

theorem take_all (s : ByteArray) : s.data.toList.take s.size = s.data.toList := List.take_of_length_le (Nat.le_of_eq Array.length_toList)
theorem not32 (n : Nat) (h : n < 4294967296) : bits .xor .u32 IntKind.u32.max (n : Int) = ((4294967295 - n : Nat) : Int) := by
  have e1 : IntKind.u32.max = ((4294967295 : Nat) : Int) := by decide
  rw [e1, x32 _ _ (by decide) h]
  congr 1
  have e2 : (BitVec.ofNat 32 4294967295 ^^^ BitVec.ofNat 32 n) = ~~~(BitVec.ofNat 32 n) := by
    have : BitVec.ofNat 32 4294967295 = BitVec.allOnes 32 := by decide
    rw [this, BitVec.allOnes_xor]
  have e3 := congrArg BitVec.toNat e2
  rw [BitVec.toNat_xor, BitVec.toNat_not, BitVec.toNat_ofNat, BitVec.toNat_ofNat, Nat.mod_eq_of_lt (show n < 2 ^ 32 from h)] at e3
  exact e3

set_option maxHeartbeats 800000 in
theorem more_any (n : Nat) (s : ByteArray) (w : World) (hn : n < 4294967296) (hs : s.size ≤ 140737488351232) :
    Calls Try.prog 25 #[.int .u32 n, .string s] w fun e w' => e = .returned (.int .u32 (crcM n s.data.toList : Nat)) ∧ w = w' := by
  go_enter Try.func25, Try.ntmps25
  go_wp2_with fail
  go_loop [0, 5, 10] (fun m _ i => ∃ k : Nat, k ≤ s.size ∧ i = .int .i64 k ∧ m = .int .u32 (tks (4294967295 - n) (s.data.toList.take k) : Nat)) (fun _ _ i => s.size - (intOf i).toNat)
  case atStart => exact ⟨0, by omega, rfl, by rw [not32 n hn]; rfl⟩
  case round =>
    obtain ⟨k, hk, rfl, rfl⟩ := hrel
    have hl := tks_lt (s.data.toList.take k) (4294967295 - n) (by omega)
    by_cases h8 : k < s.size
    · have hs1 : tks (4294967295 - n) (s.data.toList.take (k + 1)) = tk (tks (4294967295 - n) (s.data.toList.take k)) s[k].toNat := by rw [bytes_snoc s k h8, tks_snoc]
      generalize tks (4294967295 - n) (s.data.toList.take k) = y at *
      have HS := Lib.hid hs1; clear hs1
      go_wp2_with (go_at_call 85; refine (take_any _ _ _ hl (UInt8.toNat_lt _)).mono ?_; rintro e w' ⟨rfl, rfl⟩)
      go_round
      case rel => exact ⟨k + 1, by omega, by go_num, by rw [HS.out]⟩
      case measure => simp [intOf]; omega
    · have hke : k = s.size := by omega
      go_wp2_with fail
      go_ret
      refine ⟨ret_u32 ?_, rfl⟩
      rw [hke] at hl
      rw [not32 _ hl, crcM, take_all]

set_option maxHeartbeats 800000 in
theorem crcMore_any (n : Nat) (s : ByteArray) (w : World) (hn : n < 4294967296) (hs : s.size ≤ 140737488351232) :
    Calls Try.prog 24 #[.int .u32 n, .string s] w fun e w' => e = .returned (.int .u32 (crcM n s.data.toList : Nat)) ∧ Below w.heap.size w w' := by
  have hcv := fun w => Lib.run_convert_string_bytes (P := Try.prog) w 9 108 5 s Try.underlying9 Try.underlying108 Try.underlying5
  go_enter Try.func24, Try.ntmps24
  go_wp2_with fail
  have hcell := fun j hj => Lib.bytesWorld_cell w 5 s j hj
  have hbw : Below w.heap.size w (Lib.bytesWorld w 5 s) := ⟨rfl, rfl, rfl, by rw [Lib.bytesWorld_size]; omega, fun k hk => Lib.bytesWorld_at_old w _ s k hk⟩
  obtain ⟨W, hW⟩ : ∃ W, W = Lib.bytesWorld w 5 s := ⟨_, rfl⟩
  rw [← hW] at hcell hbw ⊢
  generalize grownCap w s.size 0 5 = cp
  have HC := Lib.hid hcell
  have HB := Lib.hid hbw
  clear hcell hbw hW hcv
  go_loop [0, 6, 12] (fun m _ i => ∃ k : Nat, k ≤ s.size ∧ i = .int .i64 k ∧ m = .int .u32 (tks (4294967295 - n) (s.data.toList.take k) : Nat)) (fun _ _ i => s.size - (intOf i).toNat)
  case atStart => exact ⟨0, by omega, rfl, congrArg (Value.int .u32) (by show _ = ((4294967295 - n : Nat) : Int); omega)⟩
  case round =>
    obtain ⟨k, hk, rfl, rfl⟩ := hrel
    have hl := tks_lt (s.data.toList.take k) (4294967295 - n) (by omega)
    by_cases h8 : k < s.size
    · have hs1 : tks (4294967295 - n) (s.data.toList.take (k + 1)) = tk (tks (4294967295 - n) (s.data.toList.take k)) s[k].toNat := by rw [bytes_snoc s k h8, tks_snoc]
      generalize tks (4294967295 - n) (s.data.toList.take k) = y at *
      have HS := Lib.hid hs1; clear hs1
      have hc := HC.out k h8
      have he : (s.data.toList.getD k 0) = s[k] := by
        rw [List.getD_eq_getElem?_getD, List.getElem?_eq_getElem (by simpa using h8)]; rfl
      rw [he] at hc
      have hlt := UInt8.toNat_lt s[k]
      generalize s[k].toNat = q at *
      clear he
      go_wp2_with (go_at_call 84; refine (crcByte_any _ _ _ hl hlt).mono ?_; rintro e w' ⟨rfl, rfl⟩)
      go_round
      case rel => exact ⟨k + 1, by omega, by go_num, by rw [HS.out]⟩
      case measure => simp [intOf]; omega
    · have hke : k = s.size := by omega
      have hfin : tks (4294967295 - n) (s.data.toList.take k) = tks (4294967295 - n) s.data.toList := by rw [hke, take_all]
      have HF := Lib.hid hfin; clear hfin hke
      generalize tks (4294967295 - n) (s.data.toList.take k) = y at *
      go_wp2_with fail
      go_ret
      refine ⟨ret_u32 ?_, HB.out⟩
      rw [crcM, ← HF.out]; omega

set_option maxHeartbeats 800000 in
theorem of_crc (s : ByteArray) (w : World) (hs : s.size ≤ 140737488351232) :
    Calls Try.prog 23 #[.string s] w fun e w' => e = .returned (.int .u32 (crcM 0 s.data.toList : Nat)) ∧ w = w' := by
  go_enter Try.func23, Try.ntmps23
  go_wp2_with fail
  refine (more_any 0 s w (by decide) hs).mono ?_
  rintro e w' ⟨rfl, rfl⟩
  go_wp2_with fail
  go_ret
  exact ⟨rfl, rfl⟩

def sealB (n : Nat) : List UInt8 := [UInt8.ofNat (n % 256), UInt8.ofNat (n / 256 % 256), UInt8.ofNat (n / 65536 % 256), UInt8.ofNat (n / 16777216 % 256)]
def sealS (s : ByteArray) : ByteArray := s ++ ⟨(sealB (crcM 0 s.data.toList)).toArray⟩
theorem sealS_size (s : ByteArray) : (sealS s).size = s.size + 4 := by unfold sealS; rw [ByteArray.size_append]; rfl

theorem u8_ofNat_toNat (x : Nat) (h : x < 256) : (UInt8.ofNat x).toNat = x := by simp; omega

set_option maxHeartbeats 800000 in
set_option maxRecDepth 100000 in
theorem seal_any (s : ByteArray) (w : World) (hs : s.size ≤ 140737488351232) :
    Calls Try.prog 26 #[.string s] w fun e w' => e = .returned (.string (sealS s)) ∧ Below w.heap.size w w' := by
  have hS : sealS s = s ++ ⟨(sealB (crcM 0 s.data.toList)).toArray⟩ := rfl
  have hl := crcM_lt 0 s.data.toList
  go_enter Try.func26, Try.ntmps26
  go_wp2_with fail
  refine (of_crc s w hs).mono ?_
  rintro e w' ⟨rfl, rfl⟩
  generalize crcM 0 s.data.toList = n at *
  have hcv := run_convert_bytes_back (P := Try.prog) (w.alloc (Obj.cells #[Value.int IntKind.u8 ((n : Int) % 256), Value.int IntKind.u8 ((n : Int) / 256 % 256), Value.int IntKind.u8 ((n : Int) / 65536 % 256), Value.int IntKind.u8 ((n : Int) / 16777216)] 5)) 108 9 5 ⟨w.heap.size, 0, none⟩ 4 (sealB n) Try.underlying108 Try.underlying5 Try.underlying9 (by
    intro j hj
    have h1 : (UInt8.ofNat (n % 256)).toNat = n % 256 := u8_ofNat_toNat _ (by omega)
    have h2 : (UInt8.ofNat (n / 256 % 256)).toNat = n / 256 % 256 := u8_ofNat_toNat _ (by omega)
    have h3 : (UInt8.ofNat (n / 65536 % 256)).toNat = n / 65536 % 256 := u8_ofNat_toNat _ (by omega)
    have h4 : (UInt8.ofNat (n / 16777216 % 256)).toNat = n / 16777216 % 256 := u8_ofNat_toNat _ (by omega)
    have hjl : j < 4 := hj
    rw [Addr.add_lit]
    match j, hjl with
    | 0, _ => simp only [sealB, List.getElem_cons_zero, h1]; simp [go_sem]
    | 1, _ => simp only [sealB, List.getElem_cons_succ, List.getElem_cons_zero, h2]; simp [go_sem]
    | 2, _ => simp only [sealB, List.getElem_cons_succ, List.getElem_cons_zero, h3]; simp [go_sem]
    | 3, _ => simp only [sealB, List.getElem_cons_succ, List.getElem_cons_zero, h4]; simp [go_sem]; omega)
  have e4 : (sealB n).length = 4 := rfl
  rw [e4] at hcv
  have hsz : (ByteArray.mk (sealB n).toArray).size = 4 := rfl
  have HS := Lib.hid hS; clear hS
  obtain ⟨T, hT⟩ : ∃ T, T = ByteArray.mk (sealB n).toArray := ⟨_, rfl⟩
  rw [← hT] at hcv hsz
  have HT := Lib.hid hT; clear hT e4
  go_wp2_with fail
  go_ret
  refine ⟨congrArg Ending.returned (congrArg Value.string ?_), by go_grown⟩
  rw [HS.out, HT.out]

def e8 (x : Nat) : List Value := [.int .u8 x]
theorem elT_u8 : ElT Try.prog 108 5 1 1 (.int .u8 0) := ElT.mk' Try.underlying108 (by kernel_rfl) rfl (by decide)
def bcells (xs : List Nat) (k : Nat) : List Value := (xs.take k).map (fun x : Nat => Value.int .u8 x) ++ List.replicate (xs.length - k) (.int .u8 0)
theorem bcells_set (xs : List Nat) (k : Nat) (h : k < xs.length) : (bcells xs k).set k (.int .u8 (xs[k] : Nat)) = bcells xs (k + 1) := by
  unfold bcells
  have hl : ((xs.take k).map (fun x => Value.int .u8 (x : Nat))).length = k := by simp; omega
  rw [List.set_append_right _ _ (by omega), hl, Nat.sub_self]
  have e : xs.length - k = (xs.length - (k + 1)) + 1 := by omega
  rw [e, List.replicate_succ, List.set_cons_zero, take_snoc' xs k h, List.map_append]
  simp

set_option maxHeartbeats 1000000 in
set_option maxRecDepth 100000 in
theorem bytes_any (a : Option Addr) (c B : Nat) (xs : List Nat) (w : World) (hm : xs.length ≤ 1000) (hx : Els w B a 1 ei64 (xs.map fun x : Nat => (x : Int))) (hB : B ≤ w.heap.size) (hb : ∀ x ∈ xs, x < 256) :
    Calls Try.prog 86 #[.slice a xs.length c] w fun e w' => e = .returned (.string ⟨(xs.map UInt8.ofNat).toArray⟩) ∧ Below w.heap.size w w' := by
  have H := Lib.hid hx; clear hx
  have HB := Lib.hid hb; clear hb
  go_enter Try.func86, Try.ntmps86
  go_wp2_with (at_make; refine wpMake _ rfl _ _ _ rfl w.heap.size _ _ _ elT_u8 xs.length _ _ rfl rfl rfl rfl ?_ ?_ ?_ ?_)
  · omega
  · simp only [maxLen]; omega
  · omega
  intro w1 hown hg
  have hb1 : Below w.heap.size w w1 := (Below.refl _ _).grown hg (Nat.le_refl _) (by simp)
  have hcells : List.replicate xs.length (Value.int .u8 0) = bcells xs 0 := by simp [bcells]
  rw [hcells] at hown
  have HO := Lib.hid hown
  have HB1 := Lib.hid hb1
  clear hown hb1 hcells hg
  go_wp2_with fail
  go_loopw [4, 5, 11] (fun _ _ i wr => ∃ k : Nat, k ≤ xs.length ∧ i = .int .i64 k ∧ Hid (wr.ownsRow w.heap.size 5 1 (.slice (some ⟨w.heap.size, 0, none⟩) xs.length xs.length) xs.length (bcells xs k) ∧ Below w.heap.size w wr)) (fun _ _ i _ => xs.length - (intOf i).toNat)
  case atStart => exact ⟨0, by omega, rfl, HO.out, HB1.out⟩
  case round =>
    obtain ⟨k, hk, rfl, hI⟩ := hrel
    by_cases hlt : k < xs.length
    · obtain ⟨b, o, rfl, hbB, hc⟩ := (H.out.below hI.out.2 hB).i64 k (by simpa using hlt)
      have hge : (xs.map fun x : Nat => (x : Int))[k]'(by simpa using hlt) = ((xs[k] : Nat) : Int) := by simp
      rw [hge] at hc
      have hx256 := HB.out xs[k] (List.getElem_mem hlt)
      have hset := bcells_set xs k hlt
      generalize xs[k] = x at *
      have hst := hI.out.1.stored k (.int .u8 x)
      have hfr := hI.out.1.frozenAt k
      have hcc : ∃ u, wr.cell? ⟨w.heap.size, k, none⟩ = some u := by
        have h := hI.out.1.cellAt k (by omega)
        rw [h]
        have hl := hI.out.1.1
        exact ⟨_, List.getElem?_eq_getElem (by omega)⟩
      obtain ⟨u, hu⟩ := hcc
      have HST := Lib.hid hst; clear hst
      have HSET := Lib.hid hset; clear hset hge
      go_wp2_with fail
      go_roundw
      case rel =>
        refine ⟨k + 1, by omega, by go_num, ?_, ?_⟩
        · rw [← HSET.out]; exact HST.out.1
        · exact hI.out.2.grown HST.out.2 hI.out.2.size (by simp)
      case measure => simp [intOf]; omega
    · obtain rfl : k = xs.length := by omega
      have hcv := run_convert_bytes_back (P := Try.prog) wr 108 9 5 ⟨w.heap.size, 0, none⟩ xs.length (xs.map UInt8.ofNat) Try.underlying108 Try.underlying5 Try.underlying9 (by
        intro j hj
        have hj' : j < xs.length := by simpa using hj
        rw [Addr.add_lit, Nat.zero_add, hI.out.1.cellAt j (by omega)]
        simp only [bcells, List.take_length, Nat.sub_self, List.replicate_zero, List.append_nil, List.getElem?_map, List.getElem_map, List.getElem?_eq_getElem hj', Option.map_some, u8_ofNat_toNat _ (HB.out _ (List.getElem_mem hj'))])
      rw [List.length_map] at hcv
      go_wp2_with fail
      go_ret
      exact ⟨rfl, hI.out.2⟩
end Go.Proofs.Ytemogefcbemjfaa
