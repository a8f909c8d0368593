/- Lemmas for the proof of storyShows.proved. -/
import Derived.Test.YtllmjdcblfkfaaaGreatShowM4
import Derived.Test.YtllmjdcblfkfaaaGreatProg
import Derived.KernelRfl
namespace Go.Proofs.YtllmjdcblfkfaaaGreat
set_option linter.all false
open Go.RowKit
theorem retA {P : Program} {rs : List ResultVar} {r : AV} {s : St} {φ : Prop} {xs : List AV} (h : resAV P (look s.t) (lookC s.h) rs = some (φ, xs)) (hw : Wk (cv [] (lookC s.h) (oneV xs)) r) (hφ : φ := by repeat' (first | exact trivial | exact rfl | refine ⟨?_, ?_⟩)) : RetG P 0 rs r [] s := ret0 h hφ hw
theorem wkc {x y : AV} (h : Wk x y := by first | exact Wk.refl _ | exact Wk.nil _ | (refine Wk.tup ?_; repeat' (first | exact trivial | exact Wk.refl _ | exact Wk.nil _ | refine ⟨?_, ?_⟩ | (refine Wk.agg ?_)))) : Wk x y := h
theorem obA {a b : Prop} (h : b) (ha : a := by first | omega | decide | (simp; done) | (simp; omega) | (intro hh; refine ⟨hh, ?_⟩; omega) | (simp [mhas, mfind]; done) | (simp +contextual; done) | fail) : a ∧ b := ⟨ha, h⟩
theorem tdv {a b : Int} (h : 0 ≤ a) : a.tdiv b = a / b := Int.tdiv_eq_ediv_of_nonneg h
theorem tmd {a b : Int} (h : 0 ≤ a) : a.tmod b = a % b := Int.tmod_eq_emod_of_nonneg h
theorem xa {p : Prop} [Decidable p] : (decide p = true) = p := decide_eq_true_eq
theorem xb {p : Prop} [Decidable p] : decide p = false ↔ ¬ p := decide_eq_false_iff_not
theorem xc {b : Bool} : ((!b) = true) ↔ b = false := by cases b <;> simp
theorem xd {b : Bool} : ((!b) = false) ↔ b = true := by cases b <;> simp
theorem xe {a b : Bool} : (a || b) = true ↔ a = true ∨ b = true := by cases a <;> simp
theorem xf {a b : Bool} : (a && b) = true ↔ a = true ∧ b = true := by cases a <;> simp
theorem xg {a b : Bool} : (a || b) = false ↔ a = false ∧ b = false := by cases a <;> simp
theorem xh {a b : Bool} : (a && b) = false ↔ a = false ∨ b = false := by cases a <;> simp
theorem xi {a b : Int} : ¬ a < b ↔ b ≤ a := Int.not_lt
theorem xj {a b : Int} : ¬ a ≤ b ↔ b < a := Int.not_le
theorem xk {p q : Prop} : ¬ (p ∧ q) ↔ (p → ¬ q) := not_and
theorem xl {p q : Prop} : ¬ (p ∨ q) ↔ ¬ p ∧ ¬ q := not_or
attribute [push_cast] drE clearAV copyAV partOf invA awp awpL opW opWF opX opG ex4 ex3 fz fzL inZ fzH deadsOf rowsA rowsL fzEff mapAV kty keyA intsA ex2 ex1 loadAV cellsAt valOf addO fieldAddrAV partAV fieldAV indexAddrAV indexAV bound sliceAV convAV lenAV minInts maxInts isPtr pickAV bsel_false bsel_true binAV intBin strBin eqAV eqCells eqVal nilP unAV slOf cellsOf toPV toPVs splice fillA plFs buildAV chunks sameO makeAV sliceLitAV storeAV rowOf appAV dstOk dstV gcond strip stripsT St.app putO look_n look_c lookC_n lookC_c getO ofV seqK blkK scoK nilCmp xorB opK drK lpK_n lpK_e lpK_r joinK_n joinK_e joinK_r argsT hsT RetQ I B S Op.operands Call.operands cv cvL ix ix.go cellP cvC up upL upC upsL upI drawL touch touch2 cellIds idsA idsL memN onlyC wk_self bool_imp cvT cvH hsW resAV oneV WkL WkC List.map_cons List.map_nil Option.toArray List.getElem?_cons_zero List.getElem?_cons_succ List.getElem?_nil List.drop_succ_cons List.drop_zero List.drop_nil List.take_succ_cons List.take_zero List.take_nil List.append_nil List.nil_append List.cons_append List.getElem?_toArray List.length_cons List.length_nil List.all_cons List.all_nil Bool.and_true Bool.true_and Bool.and_self Bool.and_false Bool.false_and Bool.or_false Bool.or_true Bool.true_or Bool.false_or Option.map_some Option.map_none Option.bind_some Option.bind_none if_true if_false true_and and_true List.getD_cons_zero List.getD_cons_succ Bool.not_true Bool.not_false Bool.false_eq_true not_false_eq_true not_true_eq_false Option.isSome_some List.isEmpty_cons Nat.add_zero Nat.zero_add List.length_map List.replicate_succ List.replicate_zero Nat.sub_zero and_self implies_true forall_const Value.oneCell' imp_self Int.toNat_zero Int.toNat_one Int.toNat_natCast true_or or_true or_false false_or Array.toList_append List.size_toArray decide_true decide_false Nat.ble_eq Nat.beq_eq Bool.and_eq_true Int.natCast_add Int.cast_ofNat_Int Int.natCast_zero Int.natCast_one decide_eq_true_eq decide_eq_false_iff_not Bool.not_eq_true' Bool.not_eq_false' Bool.or_eq_true Bool.or_eq_false_iff Bool.and_eq_false_iff beq_self_eq_true
theorem xtI : True := True.intro
structure XHid (p : Prop) : Prop where
 x : p
theorem xst {G G' : Prop} (k : G') (h : XHid G' → G := by intro h0; first | ((try simp (etaStruct := .none) only [push_cast, DrawG, seval]); (try simp (disch := omega) only [wrap_in, wk_self, tdv, tmd]); (repeat with_reducible refine obA ?_); exact h0.x) | (have _h : XHid True := h0; (try simp (etaStruct := .none) only [push_cast, DrawG, seval]); (try simp (disch := omega) only [wrap_in, wk_self, tdv, tmd]); (repeat with_reducible refine obA ?_))) : G := h ⟨k⟩
theorem xsu {G G' : Prop} (k : G') (h : XHid G' → G := by intro h0; first | ((try simp (disch := omega) only [wrap_in, wk_self, tdv, tmd]); (repeat with_reducible refine obA ?_); exact h0.x) | (have _h : XHid True := h0; (try simp (disch := omega) only [wrap_in, wk_self, tdv, tmd]); (repeat with_reducible refine obA ?_))) : G := h ⟨k⟩
theorem xhh {p q : Prop} (x : p) (h : p → q := by intro h0; (simp only [xa, xb, xc, xd, xe, xf, xg, xh, xi, xj, Bool.not_true, Bool.not_false, xk, xl] at h0); exact h0) : q := h x
theorem xrz {P : Program} {rs : List ResultVar} {r : AV} {s : St} {φ : Prop} {xs : List AV} (h : resAV P (look s.t) (lookC s.h) rs = some (φ, xs)) (hw : Wk (cv [] (lookC s.h) (oneV xs)) r := by first | (refine Wk.of ?_; (try simp (etaStruct := .none) only [push_cast, DrawG, seval]); first | done | (simp [*]; done) | (simp_all; done) | fail) | ((try simp (etaStruct := .none) only [push_cast, DrawG, seval]); (try simp [*]); (try exact wkc))) (hφ : φ := by repeat' (first | exact trivial | exact rfl | refine ⟨?_, ?_⟩)) : RetG P 0 rs r [] s := ret0 h hφ hw
section
variable {P : Program} {f : FuncId} {args args' : List AV} {h : Nat → Chunk} {m : Nat} {K : Eff → Prop} {r : AV} {c : Bool} {φ : Prop}
theorem caP (S : Spec P f args' [] r []) (k : K ⟨up [] m r, [], 0⟩) (hw : WkL (cvL [] noC args) args' := by exact WkL.refl _) : CallG P f args h m K := callP S hw k
theorem gcP (S : c = true → Spec P f args' [] r []) (k : K ⟨.opt c (up [] m r), [], 0⟩) (hw : WkL (cvL [] noC args) args' := by exact WkL.refl _) (hφ : c = true → φ := by intro hc; (try simp (etaStruct := .none) only [push_cast, DrawG, seval]); (try simp_all)) : GCall P c f args φ h m K := gcallP S hw hφ k
theorem caM {hs hs' : List Chunk} (ids : List Nat) (S : Spec P f args' hs r hs') (k : K ⟨up ids m r, upsL ids m 0 hs', hs'.length - ids.length⟩) (hw : WkL (cvL ids noC args) args' := by exact WkL.refl _) (hh : hs = ids.map (fun id => cvC ids noC (h id)) := by rfl) (hnd : ids.Nodup := by decide) (hal : ∀ id ∈ ids, h id ≠ .dead := by simp [lookC_c]) : CallG P f args h m K := callM ids S hw hh hnd hal k
end
end Go.Proofs.YtllmjdcblfkfaaaGreat
namespace Go.Proofs.YtllmjdcblfkfaaaGreat
set_option linter.all false
theorem mix : Tryz.prog.follows .mixedOrders = true := by kernel_rfl
theorem it3 : intTy Tryz.prog 3 = true := by kernel_rfl
theorem ty3 : ty Tryz.prog 3 = some ⟨.int .i64, false, 1, 8, [.int .i64 0]⟩ := by kernel_rfl
theorem ty4 : ty Tryz.prog 4 = some ⟨.bool, false, 1, 1, [.bool false]⟩ := by kernel_rfl
theorem ty5 : ty Tryz.prog 5 = some ⟨.int .u8, false, 1, 1, [.int .u8 0]⟩ := by kernel_rfl
theorem ty9 : ty Tryz.prog 9 = some ⟨.str, false, 1, 16, [.string ByteArray.empty]⟩ := by kernel_rfl
theorem ty20 : ty Tryz.prog 20 = some ⟨.ifc, false, 1, 16, [.nilIface]⟩ := by kernel_rfl
theorem ty22 : ty Tryz.prog 22 = some ⟨.sl 3, false, 1, 24, [.slice none 0 0]⟩ := by kernel_rfl
theorem ty24 : ty Tryz.prog 24 = some ⟨.st [some (0, 1, false), some (1, 1, false), some (2, 1, false)], true, 3, 40, [.int .i64 0, .int .i64 0, .slice none 0 0]⟩ := by kernel_rfl
theorem ty25 : ty Tryz.prog 25 = some ⟨.sl 68, false, 1, 24, [.slice none 0 0]⟩ := by kernel_rfl
theorem ty26 : ty Tryz.prog 26 = some ⟨.sl 83, false, 1, 24, [.slice none 0 0]⟩ := by kernel_rfl
theorem ty28 : ty Tryz.prog 28 = some ⟨.st [some (0, 3, true), some (3, 1, false), some (4, 1, false), some (5, 1, false), some (6, 1, false), some (7, 1, false), some (8, 1, false)], true, 9, 152, [.int .i64 0, .int .i64 0, .slice none 0 0, .slice none 0 0, .slice none 0 0, .slice none 0 0, .slice none 0 0, .int .i64 0, .int .i64 0]⟩ := by kernel_rfl
theorem ty29 : ty Tryz.prog 29 = some ⟨.sl 53, false, 1, 24, [.slice none 0 0]⟩ := by kernel_rfl
theorem ty31 : ty Tryz.prog 31 = some ⟨.st [some (0, 9, true), some (9, 1, false)], true, 10, 176, [.int .i64 0, .int .i64 0, .slice none 0 0, .slice none 0 0, .slice none 0 0, .slice none 0 0, .slice none 0 0, .int .i64 0, .int .i64 0, .slice none 0 0]⟩ := by kernel_rfl
theorem ty32 : ty Tryz.prog 32 = some ⟨.int .u64, false, 1, 8, [.int .u64 0]⟩ := by kernel_rfl
theorem it33 : intTy Tryz.prog 33 = true := by kernel_rfl
theorem ty33 : ty Tryz.prog 33 = some ⟨.int .i64, false, 1, 8, [.int .i64 0]⟩ := by kernel_rfl
theorem ty36 : ty Tryz.prog 36 = some ⟨.sl 32, false, 1, 24, [.slice none 0 0]⟩ := by kernel_rfl
theorem ty40 : ty Tryz.prog 40 = some ⟨.sl 9, false, 1, 24, [.slice none 0 0]⟩ := by kernel_rfl
theorem ty53 : ty Tryz.prog 53 = some ⟨.sl 70, false, 1, 24, [.slice none 0 0]⟩ := by kernel_rfl
theorem ty60 : ty Tryz.prog 60 = some ⟨.sl 4, false, 1, 24, [.slice none 0 0]⟩ := by kernel_rfl
theorem ty62 : ty Tryz.prog 62 = some ⟨.st [some (0, 1, false), some (1, 1, false), some (2, 1, false)], true, 3, 72, [.slice none 0 0, .slice none 0 0, .slice none 0 0]⟩ := by kernel_rfl
theorem ty68 : ty Tryz.prog 68 = some ⟨.st [some (0, 1, false), some (1, 1, false)], true, 2, 16, [.int .i64 0, .int .i64 0]⟩ := by kernel_rfl
theorem ty70 : ty Tryz.prog 70 = some ⟨.st [some (0, 1, false), some (1, 1, false), some (2, 1, false), some (3, 2, true), some (5, 1, false)], true, 6, 48, [.int .i64 0, .int .i64 0, .int .i64 0, .int .i64 0, .int .i64 0, .int .i64 0]⟩ := by kernel_rfl
theorem ty74 : ty Tryz.prog 74 = some ⟨.sl 5, false, 1, 24, [.slice none 0 0]⟩ := by kernel_rfl
theorem ty83 : ty Tryz.prog 83 = some ⟨.st [some (0, 1, false), some (1, 1, false), some (2, 1, false), some (3, 2, true), some (5, 1, false), some (6, 1, false)], true, 7, 56, [.int .i64 0, .int .i64 0, .int .i64 0, .int .i64 0, .int .i64 0, .int .i64 0, .int .i64 0]⟩ := by kernel_rfl
theorem ty85 : ty Tryz.prog 85 = some ⟨.st [some (0, 1, false), some (1, 1, false), some (2, 1, false), some (3, 1, false)], true, 4, 32, [.int .i64 0, .int .i64 0, .int .i64 0, .int .i64 0]⟩ := by kernel_rfl
theorem ty89 : ty Tryz.prog 89 = some ⟨.sl 128, false, 1, 24, [.slice none 0 0]⟩ := by kernel_rfl
theorem ty91 : ty Tryz.prog 91 = some ⟨.sl 130, false, 1, 24, [.slice none 0 0]⟩ := by kernel_rfl
theorem ty93 : ty Tryz.prog 93 = some ⟨.sl 132, false, 1, 24, [.slice none 0 0]⟩ := by kernel_rfl
theorem ty102 : ty Tryz.prog 102 = some ⟨.int .u32, false, 1, 4, [.int .u32 0]⟩ := by kernel_rfl
theorem ty113 : ty Tryz.prog 113 = some ⟨.int .u64, false, 1, 8, [.int .u64 0]⟩ := by kernel_rfl
theorem ty115 : ty Tryz.prog 115 = some ⟨.ptr 117, false, 1, 8, [.pointer none]⟩ := by kernel_rfl
theorem ty117 : ty Tryz.prog 117 = some ⟨.st [some (0, 1, false), some (1, 1, false)], true, 2, 32, [.pointer none, .slice none 0 0]⟩ := by kernel_rfl
theorem ty125 : ty Tryz.prog 125 = some ⟨.sl 85, false, 1, 24, [.slice none 0 0]⟩ := by kernel_rfl
theorem ty128 : ty Tryz.prog 128 = some ⟨.st [some (0, 1, false), some (1, 1, false)], true, 2, 16, [.int .i64 0, .int .i64 0]⟩ := by kernel_rfl
theorem ty130 : ty Tryz.prog 130 = some ⟨.st [some (0, 1, false), some (1, 2, true)], true, 3, 24, [.int .i64 0, .int .i64 0, .int .i64 0]⟩ := by kernel_rfl
theorem ty132 : ty Tryz.prog 132 = some ⟨.st [some (0, 1, false), some (1, 1, false), some (2, 2, true), some (4, 1, false)], true, 5, 40, [.int .i64 0, .int .i64 0, .int .i64 0, .int .i64 0, .int .i64 0]⟩ := by kernel_rfl
theorem ty138 : ty Tryz.prog 138 = some ⟨.other, false, 1, 8, [.nilFunc]⟩ := by kernel_rfl
theorem ty141 : ty Tryz.prog 141 = some ⟨.other, false, 1, 8, [.nilFunc]⟩ := by kernel_rfl
theorem ty143 : ty Tryz.prog 143 = some ⟨.mp 3 3, false, 1, 8, [.map none]⟩ := by kernel_rfl
theorem ty153 : ty Tryz.prog 153 = some ⟨.st [some (0, 1, false), some (1, 1, false), some (2, 1, false)], true, 3, 72, [.slice none 0 0, .slice none 0 0, .slice none 0 0]⟩ := by kernel_rfl
theorem ty157 : ty Tryz.prog 157 = some ⟨.st [some (0, 9, true)], true, 9, 152, [.int .i64 0, .int .i64 0, .slice none 0 0, .slice none 0 0, .slice none 0 0, .slice none 0 0, .slice none 0 0, .int .i64 0, .int .i64 0]⟩ := by kernel_rfl
theorem ty162 : ty Tryz.prog 162 = some ⟨.ptr 5, false, 1, 8, [.pointer none]⟩ := by kernel_rfl
theorem ty167 : ty Tryz.prog 167 = some ⟨.other, false, 1, 8, [.nilFunc]⟩ := by kernel_rfl
theorem ty169 : ty Tryz.prog 169 = some ⟨.other, false, 1, 8, [.nilFunc]⟩ := by kernel_rfl
theorem ty179 : ty Tryz.prog 179 = some ⟨.other, false, 1, 8, [.nilFunc]⟩ := by kernel_rfl
theorem ty182 : ty Tryz.prog 182 = some ⟨.mp 68 3, false, 1, 8, [.map none]⟩ := by kernel_rfl
theorem ty183 : ty Tryz.prog 183 = some ⟨.sl 36, false, 1, 24, [.slice none 0 0]⟩ := by kernel_rfl
theorem ty185 : ty Tryz.prog 185 = some ⟨.ptr 83, false, 1, 8, [.pointer none]⟩ := by kernel_rfl
theorem ty187 : ty Tryz.prog 187 = some ⟨.other, false, 1, 8, [.nilFunc]⟩ := by kernel_rfl
theorem ty188 : ty Tryz.prog 188 = some ⟨.ptr 157, false, 1, 8, [.pointer none]⟩ := by kernel_rfl
theorem ty195 : ty Tryz.prog 195 = some ⟨.arr 2 68, true, 4, 32, [.int .i64 0, .int .i64 0, .int .i64 0, .int .i64 0]⟩ := by kernel_rfl
theorem ty200 : ty Tryz.prog 200 = some ⟨.ptr 209, false, 1, 8, [.pointer none]⟩ := by kernel_rfl
theorem ty204 : ty Tryz.prog 204 = some ⟨.arr 4 68, true, 8, 64, [.int .i64 0, .int .i64 0, .int .i64 0, .int .i64 0, .int .i64 0, .int .i64 0, .int .i64 0, .int .i64 0]⟩ := by kernel_rfl
theorem ty207 : ty Tryz.prog 207 = some ⟨.sl 225, false, 1, 24, [.slice none 0 0]⟩ := by kernel_rfl
theorem ty209 : ty Tryz.prog 209 = some ⟨.st [some (0, 3, true), some (3, 2, true), some (5, 1, false), some (6, 1, false)], true, 7, 104, [.int .i64 0, .int .i64 0, .slice none 0 0, .int .i64 0, .int .i64 0, .slice none 0 0, .slice none 0 0]⟩ := by kernel_rfl
theorem ty223 : ty Tryz.prog 223 = some ⟨.ptr 207, false, 1, 8, [.pointer none]⟩ := by kernel_rfl
theorem ty225 : ty Tryz.prog 225 = some ⟨.st [some (0, 2, true), some (2, 1, false), some (3, 1, false)], true, 4, 32, [.int .i64 0, .int .i64 0, .int .i64 0, .int .i64 0]⟩ := by kernel_rfl
theorem ty234 : ty Tryz.prog 234 = some ⟨.ifc, false, 1, 16, [.nilIface]⟩ := by kernel_rfl
theorem fl68 : flatN Tryz.prog 9 68 = some [0, 0] := by kernel_rfl
theorem ag68 : aggT Tryz.prog 68 = true := by kernel_rfl
theorem fl70 : flatN Tryz.prog 9 70 = some [0, 0, 0, 0, 0, 0] := by kernel_rfl
theorem ag70 : aggT Tryz.prog 70 = true := by kernel_rfl
theorem meth223_Len : methA Tryz.prog 223 "Len" = some (163, false, some 207) := by kernel_rfl
theorem meth223_Less : methA Tryz.prog 223 "Less" = some (188, false, some 207) := by kernel_rfl
theorem meth223_Pop : methA Tryz.prog 223 "Pop" = some (190, true, some 207) := by kernel_rfl
theorem meth223_Push : methA Tryz.prog 223 "Push" = some (191, true, some 207) := by kernel_rfl
theorem meth223_Swap : methA Tryz.prog 223 "Swap" = some (189, false, some 207) := by kernel_rfl
attribute [push_cast] it3 ty3 ty4 ty5 ty9 ty20 ty22 ty24 ty25 ty26 ty28 ty29 ty31 ty32 it33 ty33 ty36 ty40 ty53 ty60 ty62 ty68 ty70 ty74 ty83 ty85 ty89 ty91 ty93 ty102 ty113 ty115 ty117 ty125 ty128 ty130 ty132 ty138 ty141 ty143 ty153 ty157 ty162 ty167 ty169 ty179 ty182 ty183 ty185 ty187 ty188 ty195 ty200 ty204 ty207 ty209 ty223 ty225 ty234 fl68 ag68 fl70 ag70 meth223_Len meth223_Less meth223_Pop meth223_Push meth223_Swap
end Go.Proofs.YtllmjdcblfkfaaaGreat
namespace Go.Proofs.YtllmjdcblfkfaaaGreat
set_option linter.all false
open Go.RowKit
abbrev In64 (n : Int) : Prop := -9223372036854775808 ≤ n ∧ n ≤ 9223372036854775807
abbrev pI (n : Int) : PV := .v (.int .i64 n)
abbrev pB (b : Bool) : PV := .v (.bool b)
def i64P (n : Int) : List PV := [pI n]
def u64P (n : Nat) : List PV := [.v (.int .u64 n)]
def boolP (b : Bool) : List PV := [pB b]
def strP (s : ByteArray) : List PV := [.v (.string s)]
structure Cel where
 x : Int
 y : Int
 deriving DecidableEq, Inhabited
def celP (c : Cel) : List PV := [pI c.x, pI c.y]
abbrev celA (c : Cel) : AV := .agg [I .i64 c.x, I .i64 c.y]
structure Fld where
 w : Int
 h : Int
 p : List Int
 deriving DecidableEq, Inhabited
abbrev fldA (f : Fld) : AV := .agg [I .i64 f.w, I .i64 f.h, .c (.sl 1 (f.p.map i64P))]
structure Trp where
 id : Int
 owner : Int
 kind : Int
 c : Cel
 life : Int
 load : Int
 deriving DecidableEq, Inhabited
def trpP (t : Trp) : List PV := [pI t.id, pI t.owner, pI t.kind, pI t.c.x, pI t.c.y, pI t.life, pI t.load]
structure Wld where
 f : Fld
 bases : List Cel
 stocks : List Int
 mines : List Int
 troops : List Trp
 next : Int
 now : Int
 deriving DecidableEq, Inhabited
abbrev wldA (w : Wld) : AV := .agg [I .i64 w.f.w, I .i64 w.f.h, .c (.sl 1 (w.f.p.map i64P)), .c (.sl 2 (w.bases.map celP)), .c (.sl 1 (w.stocks.map i64P)), .c (.sl 1 (w.mines.map i64P)), .c (.sl 7 (w.troops.map trpP)), I .i64 w.next, I .i64 w.now]
structure Ord where
 by_ : Int
 kind : Int
 who : Int
 c : Cel
 what : Int
 deriving DecidableEq, Inhabited
def ordP (o : Ord) : List PV := [pI o.by_, pI o.kind, pI o.who, pI o.c.x, pI o.c.y, pI o.what]
abbrev ordA (o : Ord) : AV := .agg [I .i64 o.by_, I .i64 o.kind, I .i64 o.who, I .i64 o.c.x, I .i64 o.c.y, I .i64 o.what]
theorem getD_in {α : Type} [Inhabited α] (f : α → List PV) (l : List α) (i : Nat) (h : i < l.length) : (l.map f).getD i [] = f (l.getD i default) := by
 simp [h]
theorem getD_at {α : Type} [Inhabited α] (l : List α) (i : Nat) (h : i < l.length) : l.getD i default = l[i] := by simp [h]
theorem take_snoc {α : Type} [Inhabited α] (l : List α) (k : Nat) (h : k < l.length) : l.take (k + 1) = l.take k ++ [l.getD k default] := by rw [List.take_succ_eq_append_getElem h, getD_at _ _ h]
def partL {α : Type} (f : α → α) (i : Nat) (g : List α) : List α := (g.take i).map f ++ g.drop i
theorem partL_len {α : Type} (f : α → α) (i : Nat) (g : List α) : (partL f i g).length = g.length := by simp [partL]; omega
theorem partL_0 {α : Type} (f : α → α) (g : List α) : partL f 0 g = g := by simp [partL]
theorem partL_all {α : Type} (f : α → α) (g : List α) : partL f g.length g = g.map f := by simp [partL]
theorem partL_succ {α : Type} [Inhabited α] (f : α → α) (i : Nat) (g : List α) (h : i < g.length) : partL f (i + 1) g = (partL f i g).set i (f (g.getD i default)) := by
 unfold partL
 rw [List.set_append_right _ _ (by simp; omega), getD_at _ _ h]
 rw [List.length_map, List.length_take, Nat.min_eq_left (Nat.le_of_lt h), Nat.sub_self, List.drop_eq_getElem_cons h, List.set_cons_zero, List.take_succ_eq_append_getElem h, List.map_append, List.append_assoc]
 rfl
theorem getD_mem {α : Type} [Inhabited α] (l : List α) (i : Nat) (h : i < l.length) : l.getD i default ∈ l := by rw [getD_at _ _ h]; exact List.getElem_mem h
section
variable {α : Type} [Inhabited α] (key : α → Int)
def swapL (l : List α) (i j : Nat) : List α := (l.set i (l.getD j default)).set j (l.getD i default)
theorem swapL_len (l : List α) (i j : Nat) : (swapL l i j).length = l.length := by simp [swapL]
theorem swapL_getD (l : List α) {i j k : Nat} (hi : i < l.length) (hj : j < l.length) (hk : k < l.length) : (swapL l i j).getD k default = if k = j then l.getD i default else if k = i then l.getD j default else l.getD k default := by
 unfold swapL
 rw [getD_at _ _ (by simpa using hk), List.getElem_set, List.getElem_set]
 by_cases h1 : j = k
 ·rw [if_pos h1, if_pos h1.symm]
 ·rw [if_neg h1, if_neg (Ne.symm h1)]
  by_cases h2 : i = k
  ·rw [if_pos h2, if_pos h2.symm]
  ·rw [if_neg h2, if_neg (Ne.symm h2), getD_at _ _ hk]
theorem mem_getD {l : List α} {x : α} : x ∈ l ↔ ∃ k, k < l.length ∧ l.getD k default = x := by
 constructor
 ·intro h
  obtain ⟨k, hk, e⟩ := List.getElem_of_mem h
  exact ⟨k, hk, by rw [getD_at _ _ hk]; exact e⟩
 ·rintro ⟨k, hk, rfl⟩
  exact getD_mem l k hk
theorem swapL_mem (l : List α) {i j : Nat} (hi : i < l.length) (hj : j < l.length) (x : α) : x ∈ swapL l i j ↔ x ∈ l := by
 rw [mem_getD, mem_getD, swapL_len]
 constructor
 ·rintro ⟨k, hk, e⟩
  rw [swapL_getD l hi hj hk] at e
  split at e
  ·exact ⟨i, hi, e⟩
  ·split at e
   ·exact ⟨j, hj, e⟩
   ·exact ⟨k, hk, e⟩
 ·rintro ⟨k, hk, e⟩
  by_cases h1 : k = i
  ·subst h1
   refine ⟨j, hj, ?_⟩
   rw [swapL_getD l hi hj hj, if_pos rfl]; exact e
  ·by_cases h2 : k = j
   ·subst h2
    refine ⟨i, hi, ?_⟩
    rw [swapL_getD l hi hj hi]
    by_cases h3 : i = k
    ·exact absurd h3.symm h1
    ·rw [if_neg h3, if_pos rfl]; exact e
   ·exact ⟨k, hk, by rw [swapL_getD l hi hj hk, if_neg h2, if_neg h1]; exact e⟩
def par (k : Nat) : Nat := (k - 1) / 2
theorem par_tdiv (j : Nat) : ((j : Int) - 1).tdiv 2 = ((par j : Nat) : Int) := by
 cases j with
 | zero => rfl
 | succ k =>
  rw [show ((k + 1 : Nat) : Int) - 1 = (k : Int) from by omega, Int.tdiv_eq_ediv_of_nonneg (by omega)]
  simp [par]
def HeapN (l : List α) (n : Nat) : Prop := ∀ k, 0 < k → k < n → key (l.getD (par k) default) ≤ key (l.getD k default)
def hup (l : List α) (j : Nat) : List α := if par j = j ∨ ¬ key (l.getD j default) < key (l.getD (par j) default) then l else hup (swapL l (par j) j) (par j)
termination_by j
decreasing_by simp only [par, not_or] at *; omega
theorem hup_len (l : List α) (j : Nat) : (hup key l j).length = l.length := by
 induction j using Nat.strongRecOn generalizing l with
 | _ j ih =>
  rw [hup]
  split
  ·rfl
  ·rename_i h
   rw [ih (par j) (by simp only [par, not_or] at *; omega), swapL_len]
theorem hup_mem (l : List α) (j : Nat) (hj : j < l.length) (x : α) : x ∈ hup key l j ↔ x ∈ l := by
 induction j using Nat.strongRecOn generalizing l with
 | _ j ih =>
  rw [hup]
  split
  ·rfl
  ·rename_i h
   have : par j < j := by simp only [par, not_or] at *; omega
   rw [ih (par j) this _ (by rw [swapL_len]; omega), swapL_mem _ (by omega) hj]
theorem hup_heap (l : List α) (j : Nat) (hj : j < l.length) (h1 : ∀ k, 0 < k → k < l.length → k ≠ j → key (l.getD (par k) default) ≤ key (l.getD k default))
 (h2 : 0 < j → ∀ k, 0 < k → k < l.length → par k = j → key (l.getD (par j) default) ≤ key (l.getD k default)) : HeapN key (hup key l j) l.length := by
 induction j using Nat.strongRecOn generalizing l with
 | _ j ih =>
  rw [hup]
  split
  ·rename_i h
   intro k hk hkl
   by_cases e : k = j
   ·subst e
    rcases h with h | h
    ·simp only [par] at h; omega
    ·omega
   ·exact h1 k hk hkl e
  ·rename_i h
   rw [not_or, Decidable.not_not] at h
   obtain ⟨e1, e2⟩ := h
   have lt : par j < j := by simp only [par] at *; omega
   have hi : par j < l.length := by omega
   have G : ∀ k, k < l.length → (swapL l (par j) j).getD k default = if k = j then l.getD (par j) default else if k = par j then l.getD j default else l.getD k default := fun k hk => swapL_getD l hi hj hk
   have := ih (par j) lt (swapL l (par j) j) (by rw [swapL_len]; exact hi) (fun k hk hkl hne => by
    rw [swapL_len] at hkl
    rw [G k hkl, G (par k) (by simp only [par] at *; omega)]
    by_cases a : k = j
    ·subst a
     rw [if_neg (by omega), if_pos rfl, if_pos rfl]; omega
    ·rw [if_neg a, if_neg hne]
     by_cases b : par k = j
     ·rw [if_pos b]
      exact h2 (by omega) k hk hkl b
     ·rw [if_neg b]
      by_cases c : par k = par j
      ·rw [if_pos c]
       have := h1 k hk hkl a
       rw [c] at this; omega
      ·rw [if_neg c]; exact h1 k hk hkl a) (fun hp k hk hkl hpk => by
    rw [swapL_len] at hkl
    have q1 : par (par j) < par j := by simp only [par] at *; omega
    have q2 := h1 (par j) hp hi (by omega)
    rw [G k hkl, G _ (by omega), if_neg (by omega), if_neg (by omega)]
    by_cases a : k = j
    ·rw [if_pos a]; exact q2
    ·have : k ≠ par j := by intro e; rw [e] at hpk; omega
     rw [if_neg a, if_neg this]
     have := h1 k hk hkl a
     rw [hpk] at this; omega)
   rwa [swapL_len] at this
def kid (l : List α) (i n : Nat) : Nat := if 2 * i + 2 < n ∧ key (l.getD (2 * i + 2) default) < key (l.getD (2 * i + 1) default) then 2 * i + 2 else 2 * i + 1
theorem kid_gt (l : List α) (i n : Nat) : i < kid key l i n := by unfold kid; split <;> omega
theorem kid_lt (l : List α) (i n : Nat) (h : 2 * i + 1 < n) : kid key l i n < n := by unfold kid; split <;> omega
def hdn (l : List α) (i n : Nat) : List α := if n ≤ 2 * i + 1 ∨ ¬ key (l.getD (kid key l i n) default) < key (l.getD i default) then l else hdn (swapL l i (kid key l i n)) (kid key l i n) n
termination_by n - i
decreasing_by
 rename_i h
 have h1 := kid_gt key l i n
 rw [not_or] at h
 omega
theorem hdn_len (l : List α) (i n : Nat) : (hdn key l i n).length = l.length := by
 induction hm : n - i using Nat.strongRecOn generalizing l i with
 | _ m ih =>
  rw [hdn]
  split
  ·rfl
  ·rename_i h
   have h1 := kid_gt key l i n
   rw [ih _ (by omega) _ _ rfl, swapL_len]
theorem hdn_mem (l : List α) (i n : Nat) (hn : n ≤ l.length) (x : α) : x ∈ hdn key l i n ↔ x ∈ l := by
 induction hm : n - i using Nat.strongRecOn generalizing l i with
 | _ m ih =>
  rw [hdn]
  split
  ·rfl
  ·rename_i h
   have h1 := kid_gt key l i n
   have h2 := kid_lt key l i n (by omega)
   rw [ih _ (by omega) _ _ (by rw [swapL_len]; exact hn) rfl, swapL_mem _ (by omega) (by omega)]
theorem hdn_out (l : List α) (i n k : Nat) (hn : n ≤ l.length) (hk : n ≤ k) (hkl : k < l.length) : (hdn key l i n).getD k default = l.getD k default := by
 induction hm : n - i using Nat.strongRecOn generalizing l i with
 | _ m ih =>
  rw [hdn]
  split
  ·rfl
  ·rename_i h
   have h1 := kid_gt key l i n
   have h2 := kid_lt key l i n (by omega)
   rw [ih _ (by omega) _ _ (by rw [swapL_len]; exact hn) (by rw [swapL_len]; exact hkl) rfl, swapL_getD _ (by omega) (by omega) hkl, if_neg (by omega), if_neg (by omega)]
theorem hdn_heap (l : List α) (i n : Nat) (hn : n ≤ l.length) (h1 : ∀ k, 0 < k → k < n → par k ≠ i → key (l.getD (par k) default) ≤ key (l.getD k default))
 (h2 : 0 < i → ∀ k, 0 < k → k < n → par k = i → key (l.getD (par i) default) ≤ key (l.getD k default)) : HeapN key (hdn key l i n) n := by
 induction hm : n - i using Nat.strongRecOn generalizing l i with
 | _ m ih =>
  have kd : ∀ k, 0 < k → k < n → par k = i → key (l.getD (kid key l i n) default) ≤ key (l.getD k default) := by
   intro k hk hkn hp
   have : k = 2 * i + 1 ∨ k = 2 * i + 2 := by simp only [par] at hp; omega
   unfold kid
   rcases this with e | e
   ·subst e
    split
    ·rename_i h; omega
    ·exact Int.le_refl _
   ·subst e
    split
    ·exact Int.le_refl _
    ·rename_i h
     by_cases h3 : key (l.getD (2 * i + 2) default) < key (l.getD (2 * i + 1) default)
     ·exact absurd ⟨hkn, h3⟩ h
     ·omega
  rw [hdn]
  split
  ·rename_i h
   intro k hk hkn
   by_cases e : par k = i
   ·rcases h with h | h
    ·simp only [par] at e; omega
    ·have := kd k hk hkn e
     rw [e]; omega
   ·exact h1 k hk hkn e
  ·rename_i h
   rw [not_or, Decidable.not_not] at h
   have g1 := kid_gt key l i n
   have g2 := kid_lt key l i n (by omega)
   have gp : par (kid key l i n) = i := by unfold kid; simp only [par]; split <;> omega
   generalize kid key l i n = j at *
   have G : ∀ k, k < l.length → (swapL l i j).getD k default = if k = j then l.getD i default else if k = i then l.getD j default else l.getD k default := fun k hk => swapL_getD l (by omega) (by omega) hk
   refine ih (n - j) (by omega) (swapL l i j) j (by rw [swapL_len]; exact hn) (fun k hk hkn hpk => ?_) (fun hj k hk hkn hpk => ?_) rfl
   ·have hp : par k < k := by simp only [par] at *; omega
    rw [G k (by omega), G (par k) (by omega)]
    by_cases a : k = j
    ·subst a
     rw [if_pos rfl, if_neg (by omega), if_pos gp]; omega
    ·rw [if_neg a, if_neg hpk]
     by_cases b : k = i
     ·subst b
      rw [if_pos rfl, if_neg (by omega)]
      have := h2 hk j (by omega) (by omega) gp
      exact this
     ·rw [if_neg b]
      by_cases c : par k = i
      ·rw [if_pos c]; exact kd k hk hkn c
      ·rw [if_neg c]; exact h1 k hk hkn c
   ·have hp : par k < k := by simp only [par] at *; omega
    rw [G k (by omega), if_neg (by omega), if_neg (by omega), gp, G i (by omega), if_neg (by omega), if_pos rfl]
    have := h1 k hk hkn (by omega)
    rw [hpk] at this; exact this
theorem heap_min {l : List α} {n : Nat} (h : HeapN key l n) : ∀ k, k < n → key (l.getD 0 default) ≤ key (l.getD k default) := by
 intro k
 induction k using Nat.strongRecOn with
 | _ k ih =>
  intro hk
  rcases Nat.eq_zero_or_pos k with e | e
  ·subst e; exact Int.le_refl _
  ·have := ih (par k) (by simp only [par]; omega) (by simp only [par]; omega)
   have := h k e hk
   omega
def hpush (l : List α) (x : α) : List α := hup key (l ++ [x]) l.length
def hpop (l : List α) : List α := (hdn key (swapL l 0 (l.length - 1)) 0 (l.length - 1)).take (l.length - 1)
theorem getD_snoc (l : List α) (x : α) (k : Nat) (h : k < l.length) : (l ++ [x]).getD k default = l.getD k default := by
 rw [getD_at _ _ (by simp; omega), getD_at _ _ h, List.getElem_append_left h]
theorem hpush_len (l : List α) (x : α) : (hpush key l x).length = l.length + 1 := by unfold hpush; rw [hup_len]; simp
theorem hpush_mem (l : List α) (x y : α) : y ∈ hpush key l x ↔ y ∈ l ∨ y = x := by
 unfold hpush
 rw [hup_mem _ _ _ (by simp)]; simp
theorem hpush_heap (l : List α) (x : α) (h : HeapN key l l.length) : HeapN key (hpush key l x) (hpush key l x).length := by
 rw [hpush_len]
 have := hup_heap key (l ++ [x]) l.length (by simp) (fun k hk hkl hne => by
  simp only [List.length_append, List.length_cons, List.length_nil] at hkl
  have : par k < k := by simp only [par] at *; omega
  rw [getD_snoc _ _ _ (by omega), getD_snoc _ _ _ (by omega)]; exact h k hk (by omega)) (fun _ k hk hkl hp => by
  simp only [List.length_append, List.length_cons, List.length_nil, par] at *; omega)
 simpa [hpush] using this
theorem take_getD (l : List α) (n k : Nat) (h : k < n) : (l.take n).getD k default = l.getD k default := by
 simp only [List.getD_eq_getElem?_getD, List.getElem?_take, if_pos h]
theorem hpop_len (l : List α) : (hpop key l).length = l.length - 1 := by unfold hpop; rw [List.length_take, hdn_len, swapL_len]; omega
theorem hpop_heap (l : List α) (hl : 0 < l.length) (h : HeapN key l l.length) : HeapN key (hpop key l) (hpop key l).length := by
 rw [hpop_len]
 have := hdn_heap key (swapL l 0 (l.length - 1)) 0 (l.length - 1) (by rw [swapL_len]; omega) (fun k hk hkn hp => by
  have q : par k < k := by simp only [par] at *; omega
  rw [swapL_getD _ (by omega) (by omega) (by omega), swapL_getD _ (by omega) (by omega) (by omega), if_neg (by omega), if_neg (by omega), if_neg (by omega), if_neg (by omega)]
  exact h k hk (by omega)) (fun h0 => absurd h0 (Nat.lt_irrefl _))
 intro k hk hkn
 unfold hpop
 rw [take_getD _ _ _ hkn, take_getD _ _ _ (by simp only [par] at *; omega)]
 exact this k hk hkn
theorem hpop_last (l : List α) (hl : 0 < l.length) : (hdn key (swapL l 0 (l.length - 1)) 0 (l.length - 1)).getD (l.length - 1) default = l.getD 0 default := by
 rw [hdn_out _ _ _ _ _ (by rw [swapL_len]; omega) (Nat.le_refl _) (by rw [swapL_len]; omega), swapL_getD _ hl (by omega) (by omega), if_pos rfl]
theorem hpop_mem (l : List α) (hl : 0 < l.length) (x : α) : x ∈ l ↔ x = l.getD 0 default ∨ x ∈ hpop key l := by
 have e : hdn key (swapL l 0 (l.length - 1)) 0 (l.length - 1) = hpop key l ++ [l.getD 0 default] := by
  have h1 := hpop_last key l hl
  have h2 : (hdn key (swapL l 0 (l.length - 1)) 0 (l.length - 1)).length = l.length - 1 + 1 := by rw [hdn_len, swapL_len]; omega
  unfold hpop
  rw [← h1, ← take_snoc _ _ (by omega), List.take_of_length_le (by omega)]
 rw [← swapL_mem l hl (show l.length - 1 < l.length by omega), ← hdn_mem key _ 0 (l.length - 1) (by rw [swapL_len]; omega), e]
 simp [or_comm]
end
def Adj (W p n : Nat) : Prop := n + W = p ∨ (n + 1 = p ∧ 0 < p % W) ∨ (p + 1 = n ∧ 0 < n % W) ∨ p + W = n
theorem Adj.symm {W p n : Nat} (h : Adj W p n) : Adj W n p := by
 rcases h with h | ⟨h, h'⟩ | ⟨h, h'⟩ | h
 ·exact .inr (.inr (.inr h))
 ·exact .inr (.inr (.inl ⟨h, h'⟩))
 ·exact .inr (.inl ⟨h, h'⟩)
 ·exact .inl h
theorem Adj.ne {W p n : Nat} (hW : 0 < W) (h : Adj W p n) : p ≠ n := by
 rcases h with h | ⟨h, h'⟩ | ⟨h, h'⟩ | h <;> omega
def besideN (W H p : Nat) : List Nat := (if 0 < p / W then [p - W] else []) ++ (if 0 < p % W then [p - 1] else []) ++ (if p % W + 1 < W then [p + 1] else []) ++ (if p / W + 1 < H then [p + W] else [])
theorem besideN_len (W H p : Nat) : (besideN W H p).length ≤ 4 := by
 unfold besideN
 simp only [List.length_append]
 split <;> split <;> split <;> split <;> simp
theorem succ_mod {W : Nat} (hW : 0 < W) (p : Nat) : (p + 1) % W = if p % W + 1 = W then 0 else p % W + 1 := by
 have h1 := Nat.div_add_mod p W
 have h2 := Nat.mod_lt p hW
 have e : p + 1 = W * (p / W) + (p % W + 1) := by omega
 rw [e, Nat.mul_add_mod]
 split
 ·rename_i h; rw [h, Nat.mod_self]
 ·rename_i h; exact Nat.mod_eq_of_lt (by omega)
theorem mem_beside {W H p n : Nat} (hW : 0 < W) (hp : p < W * H) : n ∈ besideN W H p ↔ n < W * H ∧ Adj W p n := by
 have h1 := Nat.div_add_mod p W
 have h2 := Nat.mod_lt p hW
 have h3 : p / W < H := by rw [Nat.div_lt_iff_lt_mul hW, Nat.mul_comm]; exact hp
 have h4 : 0 < p / W ↔ W ≤ p := by rw [Nat.div_pos_iff]; exact ⟨fun h => h.2, fun h => ⟨hW, h⟩⟩
 have h5 : p / W + 1 < H ↔ p + W < W * H := by
  have : (p + W) / W = p / W + 1 := Nat.add_div_right p hW
  rw [← this, Nat.div_lt_iff_lt_mul hW, Nat.mul_comm]
 have h6 := succ_mod hW p
 have h7 : p % W + 1 < W → p + 1 < W * H := by
  intro h
  have : W * (p / W) + W ≤ W * H := by rw [← Nat.mul_succ]; exact Nat.mul_le_mul_left _ h3
  omega
 unfold besideN Adj
 simp only [List.mem_append]
 constructor
 ·rintro (((h | h) | h) | h)
  ·split at h
   ·rename_i g
    simp only [List.mem_singleton] at h
    have := h4.1 g
    exact ⟨by omega, .inl (by omega)⟩
   ·simp at h
  ·split at h
   ·rename_i g
    simp only [List.mem_singleton] at h
    have : 0 < p := Nat.pos_of_ne_zero fun e => by rw [e] at g; simp at g
    exact ⟨by omega, .inr (.inl ⟨by omega, g⟩)⟩
   ·simp at h
  ·split at h
   ·rename_i g
    simp only [List.mem_singleton] at h
    rw [if_neg (by omega)] at h6
    have := h7 g
    exact ⟨by omega, .inr (.inr (.inl ⟨by omega, by rw [h, h6]; omega⟩))⟩
   ·simp at h
  ·split at h
   ·rename_i g
    simp only [List.mem_singleton] at h
    have := h5.1 g
    exact ⟨by omega, .inr (.inr (.inr (by omega)))⟩
   ·simp at h
 ·rintro ⟨hn, h | ⟨h, h'⟩ | ⟨h, h'⟩ | h⟩
  ·refine .inl (.inl (.inl ?_))
   rw [if_pos (h4.2 (by omega))]; simp; omega
  ·refine .inl (.inl (.inr ?_))
   rw [if_pos h']; simp; omega
  ·refine .inl (.inr ?_)
   rw [if_pos]
   ·simp; omega
   ·rw [← h, h6] at h'
    split at h'
    ·omega
    ·omega
  ·refine .inr ?_
   rw [if_pos (h5.2 (by omega))]; simp; omega
def kV (q : Int) : Int := if q = 2 then 3 else 2
theorem kV_b (q : Int) : 2 ≤ kV q ∧ kV q ≤ 3 := by unfold kV; split <;> omega
theorem set_get {l : List Int} {i : Nat} (v : Int) (p : Nat) (hi : i < l.length) : (l.set i v).getD p default = if p = i then v else l.getD p default := by
 by_cases h : p = i
 ·subst h; rw [if_pos rfl, getD_at _ _ (by simpa using hi)]; simp
 ·rw [if_neg h]
  simp only [List.getD_eq_getElem?_getD, List.getElem?_set, if_neg (Ne.symm h)]
structure Flood (W : Nat) (pl : List Int) (s : List Nat) (far : List Int) : Prop where
 len : far.length = pl.length
 low : ∀ p, p < pl.length → -1 ≤ far.getD p default
 src : ∀ p ∈ s, far.getD p default = 0
 why : ∀ p, p < pl.length → 0 ≤ far.getD p default → (p ∈ s ∧ far.getD p default = 0) ∨ ∃ n, n < pl.length ∧ Adj W p n ∧ pl.getD p default ≠ 1 ∧ 0 ≤ far.getD n default ∧ far.getD n default + kV (pl.getD p default) ≤ far.getD p default
 all : ∀ p n, p < pl.length → n < pl.length → Adj W p n → 0 ≤ far.getD p default → pl.getD n default ≠ 1 → 0 ≤ far.getD n default ∧ far.getD n default ≤ far.getD p default + kV (pl.getD n default)
theorem Flood.le {W : Nat} {pl : List Int} {s : List Nat} {f g : List Int} (hf : Flood W pl s f) (hg : Flood W pl s g) : ∀ (N p : Nat), p < pl.length → 0 ≤ f.getD p default → f.getD p default ≤ N → 0 ≤ g.getD p default ∧ g.getD p default ≤ f.getD p default := by
 intro N
 induction N using Nat.strongRecOn with
 | _ N ih =>
  intro p hp h0 hN
  rcases hf.why p hp h0 with ⟨h1, h2⟩ | ⟨n, hn, ha, hr, h3, h4⟩
  ·rw [hg.src p h1]; omega
  ·have hk := kV_b (pl.getD p default)
   obtain ⟨k, hk2⟩ := Int.eq_ofNat_of_zero_le h3
   have := ih k (by omega) n hn h3 (by omega)
   have := hg.all n p hn hp ha.symm this.1 hr
   omega
theorem Flood.uniq {W : Nat} {pl : List Int} {s : List Nat} {f g : List Int} (hf : Flood W pl s f) (hg : Flood W pl s g) : f = g := by
 refine List.ext_getElem (hf.len.trans hg.len.symm) fun p h1 h2 => ?_
 rw [← getD_at f p h1, ← getD_at g p h2]
 have hp : p < pl.length := by rw [← hf.len]; exact h1
 have l1 := hf.low p hp
 have l2 := hg.low p hp
 by_cases h : 0 ≤ f.getD p default
 ·obtain ⟨k, hk⟩ := Int.eq_ofNat_of_zero_le h
  have a := hf.le hg k p hp h (by omega)
  obtain ⟨k', hk'⟩ := Int.eq_ofNat_of_zero_le a.1
  have b := hg.le hf k' p hp a.1 (by omega)
  omega
 ·by_cases h' : 0 ≤ g.getD p default
  ·obtain ⟨k', hk'⟩ := Int.eq_ofNat_of_zero_le h'
   have b := hg.le hf k' p hp h' (by omega)
   omega
  ·omega
def sumL (g : Int → Nat) (l : List Int) : Nat := (l.map g).sum
theorem sumL_set (g : Int → Nat) : ∀ (l : List Int) (i : Nat) (v : Int), i < l.length → sumL g (l.set i v) + g (l.getD i default) = sumL g l + g v
 | [], i, v, h => by simp at h
 | a :: r, 0, v, _ => by simp [sumL]; omega
 | a :: r, i + 1, v, h => by
  have := sumL_set g r i v (by simpa using h)
  simp only [sumL, List.set_cons_succ, List.map_cons, List.sum_cons, List.getD_cons_succ] at this ⊢
  omega
theorem sumL_le (g : Int → Nat) (b : Nat) (hg : ∀ x, g x ≤ b) : ∀ l : List Int, sumL g l ≤ b * l.length
 | [] => by simp [sumL]
 | a :: r => by
  have := sumL_le g b hg r
  have := hg a
  simp only [sumL, List.map_cons, List.sum_cons, List.length_cons, Nat.mul_add] at *
  omega
def one0 (x : Int) : Nat := if 0 ≤ x then 1 else 0
def big0 (x : Int) : Nat := if 0 ≤ x then x.toNat else 5000
theorem one0_le (x : Int) : one0 x ≤ 1 := by unfold one0; split <;> omega
theorem getD_rep (n p : Nat) (h : p < n) : (List.replicate n (-1 : Int)).getD p default = -1 := by rw [getD_at _ _ (by simpa using h)]; simp
structure Itm where
 place : Int
 far : Int
 deriving DecidableEq, Inhabited
structure Dj (W : Nat) (pl : List Int) (s : List Nat) (far : List Int) (q : List Itm) (done : Nat → Nat → Prop) : Prop where
 len : far.length = pl.length
 low : ∀ p, p < pl.length → -1 ≤ far.getD p default
 heap : HeapN Itm.far q q.length
 itm : ∀ x ∈ q, ∃ p : Nat, x.place = (p : Int) ∧ p < pl.length ∧ 0 ≤ x.far ∧ x.far ≤ 3 * sumL one0 far ∧ (∀ m, m < pl.length → far.getD m default ≤ x.far) ∧ ((p ∈ s ∧ x.far = 0) ∨ ∃ n, n < pl.length ∧ Adj W p n ∧ pl.getD p default ≠ 1 ∧ 0 ≤ far.getD n default ∧ x.far = far.getD n default + kV (pl.getD p default))
 src : ∀ p ∈ s, far.getD p default = 0 ∨ (far.getD p default < 0 ∧ ∃ x ∈ q, x.place = (p : Int) ∧ x.far = 0)
 why : ∀ p, p < pl.length → 0 ≤ far.getD p default → (p ∈ s ∧ far.getD p default = 0) ∨ ∃ n, n < pl.length ∧ Adj W p n ∧ pl.getD p default ≠ 1 ∧ 0 ≤ far.getD n default ∧ far.getD n default + kV (pl.getD p default) ≤ far.getD p default
 all : ∀ p n, p < pl.length → n < pl.length → Adj W p n → done p n → 0 ≤ far.getD p default → pl.getD n default ≠ 1 →
  (0 ≤ far.getD n default ∧ far.getD n default ≤ far.getD p default + kV (pl.getD n default)) ∨ (far.getD n default < 0 ∧ ∃ x ∈ q, x.place = (n : Int) ∧ x.far ≤ far.getD p default + kV (pl.getD n default))
section
variable {W : Nat} {pl : List Int} {s : List Nat} {far : List Int} {q : List Itm} {done : Nat → Nat → Prop}
theorem Dj.flood (h : Dj W pl s far [] fun _ _ => True) : Flood W pl s far := by
 refine ⟨h.len, h.low, fun p hp => ?_, h.why, fun p n hp hn ha h0 hr => ?_⟩
 ·rcases h.src p hp with h | ⟨_, x, hx, _⟩
  ·exact h
  ·simp at hx
 ·rcases h.all p n hp hn ha trivial h0 hr with h | ⟨_, x, hx, _⟩
  ·exact h
  ·simp at hx
theorem Dj.skip (h : Dj W pl s far q done) (hq : 0 < q.length) {p : Nat} (hp : (q.getD 0 default).place = (p : Int)) (h0 : 0 ≤ far.getD p default) : Dj W pl s far (hpop Itm.far q) done := by
 have M := hpop_mem Itm.far q hq
 refine ⟨h.len, h.low, hpop_heap _ _ hq h.heap, fun x hx => h.itm x ((M x).2 (.inr hx)), fun p' hp' => ?_, h.why, fun p' n h1 h2 h3 h4 h5 h6 => ?_⟩
 ·rcases h.src p' hp' with h7 | ⟨h7, x, hx, h8, h9⟩
  ·exact .inl h7
  ·refine .inr ⟨h7, x, ?_, h8, h9⟩
   rcases (M x).1 hx with e | e
   ·subst e; rw [hp] at h8; have : p = p' := by omega
    subst this; omega
   ·exact e
 ·rcases h.all p' n h1 h2 h3 h4 h5 h6 with h7 | ⟨h7, x, hx, h8, h9⟩
  ·exact .inl h7
  ·refine .inr ⟨h7, x, ?_, h8, h9⟩
   rcases (M x).1 hx with e | e
   ·subst e; rw [hp] at h8; have : p = n := by omega
    subst this; omega
   ·exact e
theorem Dj.close (hW : 0 < W) (h : Dj W pl s far q fun _ _ => True) (hq : 0 < q.length) {p : Nat} (hp : (q.getD 0 default).place = (p : Int)) (h0 : far.getD p default < 0) :
 p < pl.length ∧ Dj W pl s (far.set p (q.getD 0 default).far) (hpop Itm.far q) (fun a _ => a ≠ p) := by
 have M := hpop_mem Itm.far q hq
 have mem0 : q.getD 0 default ∈ q := (M _).2 (.inl rfl)
 obtain ⟨p', e1, hpl, j0, jb, jm, jw⟩ := h.itm _ mem0
 obtain rfl : p' = p := by omega
 have least : ∀ x ∈ q, (q.getD 0 default).far ≤ x.far := fun x hx => by
  obtain ⟨k, hk, rfl⟩ := mem_getD.1 hx
  exact heap_min _ h.heap k hk
 have hp'l : p' < far.length := by rw [h.len]; exact hpl
 generalize (q.getD 0 default).far = d at *
 have G := fun k => set_get d k hp'l
 have cnt : sumL one0 (far.set p' d) = sumL one0 far + 1 := by
  have := sumL_set one0 far p' d hp'l
  simp only [one0, if_neg (show ¬ 0 ≤ far.getD p' default by omega), if_pos j0] at this; simpa [one0] using this
 refine ⟨hpl, by rw [List.length_set]; exact h.len, fun k hk => ?_, hpop_heap _ _ hq h.heap, fun x hx => ?_, fun k hk => ?_, fun k hk hk0 => ?_, fun a n h1 h2 h3 h4 h5 h6 => ?_⟩
 ·rw [G]; split
  ·omega
  ·exact h.low k hk
 ·have hx' := (M x).2 (.inr hx)
  obtain ⟨k, e2, hk, l0, lb, lm, lw⟩ := h.itm x hx'
  refine ⟨k, e2, hk, l0, by rw [cnt]; omega, fun m hm => ?_, ?_⟩
  ·rw [G]; split
   ·exact least x hx'
   ·exact lm m hm
  ·rcases lw with lw | ⟨n, n1, n2, n3, n4, n5⟩
   ·exact .inl lw
   ·refine .inr ⟨n, n1, n2, n3, ?_⟩
    rw [G, if_neg (by intro e; subst e; omega)]; exact ⟨n4, n5⟩
 ·rw [G]
  rcases h.src k hk with h7 | ⟨h7, x, hx, h8, h9⟩
  ·rw [if_neg (by intro e; subst e; omega)]; exact .inl h7
  ·by_cases e : k = p'
   ·subst e
    rw [if_pos rfl]
    have := least x hx
    exact .inl (by omega)
   ·rw [if_neg e]
    refine .inr ⟨h7, x, ?_, h8, h9⟩
    rcases (M x).1 hx with e3 | e3
    ·subst e3; omega
    ·exact e3
 ·rw [G] at hk0 ⊢
  by_cases e : k = p'
  ·subst e
   rw [if_pos rfl]
   rcases jw with jw | ⟨n, n1, n2, n3, n4, n5⟩
   ·exact .inl jw
   ·refine .inr ⟨n, n1, n2, n3, ?_⟩
    rw [G, if_neg (by intro e; subst e; omega)]; omega
  ·rw [if_neg e] at hk0 ⊢
   rcases h.why k hk hk0 with jw | ⟨n, n1, n2, n3, n4, n5⟩
   ·exact .inl jw
   ·refine .inr ⟨n, n1, n2, n3, ?_⟩
    rw [G, if_neg (by intro e; subst e; omega)]; exact ⟨n4, n5⟩
 ·rw [G, if_neg h4] at h5
  rw [G, G, if_neg h4]
  rcases h.all a n h1 h2 h3 trivial h5 h6 with h7 | ⟨h7, x, hx, h8, h9⟩
  ·rw [if_neg (by intro e; subst e; omega)]; exact .inl h7
  ·by_cases e : n = p'
   ·subst e
    rw [if_pos rfl]
    have := least x hx
    exact .inl ⟨j0, by omega⟩
   ·rw [if_neg e]
    refine .inr ⟨h7, x, ?_, h8, h9⟩
    rcases (M x).1 hx with e3 | e3
    ·subst e3; omega
    ·exact e3
theorem Dj.look {p n : Nat} (h : Dj W pl s far q done) (hn : n < pl.length) (hp : p < pl.length) (ha : Adj W p n) (h0 : 0 ≤ far.getD p default) (top : ∀ m, m < pl.length → far.getD m default ≤ far.getD p default) (hb : far.getD p default + 3 ≤ 3 * sumL one0 far) (done' : Nat → Nat → Prop) (hd : ∀ a b, done' a b → done a b ∨ (a = p ∧ b = n))
 {q' : List Itm} (hq' : ((pl.getD n default = 1 ∨ 0 ≤ far.getD n default) ∧ q' = q) ∨ (pl.getD n default ≠ 1 ∧ far.getD n default < 0 ∧ q' = hpush Itm.far q ⟨(n : Int), far.getD p default + kV (pl.getD n default)⟩)) : Dj W pl s far q' done' := by
 have sub : ∀ x ∈ q, x ∈ q' := fun x hx => by
  rcases hq' with ⟨_, rfl⟩ | ⟨_, _, rfl⟩
  ·exact hx
  ·exact (hpush_mem _ _ _ _).2 (.inl hx)
 refine ⟨h.len, h.low, ?_, fun x hx => ?_, fun k hk => ?_, h.why, fun a b h1 h2 h3 h4 h5 h6 => ?_⟩
 ·rcases hq' with ⟨_, rfl⟩ | ⟨_, _, rfl⟩
  ·exact h.heap
  ·exact hpush_heap _ _ _ h.heap
 ·rcases hq' with ⟨_, rfl⟩ | ⟨g1, g2, rfl⟩
  ·exact h.itm x hx
  ·rcases (hpush_mem _ _ _ _).1 hx with e | e
   ·exact h.itm x e
   ·subst e
    have hk := kV_b (pl.getD n default)
    exact ⟨n, rfl, hn, by simp only; omega, by simp only; omega, fun m hm => by have := top m hm; simp only; omega, .inr ⟨p, hp, ha.symm, g1, h0, rfl⟩⟩
 ·rcases h.src k hk with h7 | ⟨h7, x, hx, h8, h9⟩
  ·exact .inl h7
  ·exact .inr ⟨h7, x, sub x hx, h8, h9⟩
 ·rcases hd a b h4 with h4 | ⟨rfl, rfl⟩
  ·rcases h.all a b h1 h2 h3 h4 h5 h6 with h7 | ⟨h7, x, hx, h8, h9⟩
   ·exact .inl h7
   ·exact .inr ⟨h7, x, sub x hx, h8, h9⟩
  ·rcases hq' with ⟨g | g, rfl⟩ | ⟨g1, g2, rfl⟩
   ·exact absurd g h6
   ·have hk := kV_b (pl.getD b default)
    have := top b hn
    exact .inl ⟨g, by omega⟩
   ·exact .inr ⟨g2, _, (hpush_mem _ _ _ _).2 (.inr rfl), rfl, Int.le_refl _⟩
theorem Dj.start (hs : ∀ p ∈ s, p < pl.length) (hh : HeapN Itm.far q q.length) (h1 : ∀ x ∈ q, ∃ p ∈ s, x.place = (p : Int) ∧ x.far = 0) (h2 : ∀ p ∈ s, ∃ x ∈ q, x.place = (p : Int) ∧ x.far = 0) : Dj W pl s (List.replicate pl.length (-1)) q fun _ _ => True := by
 have G := fun p hp => getD_rep pl.length p hp
 refine ⟨by simp, fun p hp => by rw [G p hp]; omega, hh, fun x hx => ?_, fun p hp => .inr ⟨by rw [G p (hs p hp)]; omega, h2 p hp⟩, fun p hp h0 => ?_, fun p n hp _ _ _ h0 _ => ?_⟩
 ·obtain ⟨p, hp, e1, e2⟩ := h1 x hx
  exact ⟨p, e1, hs p hp, by omega, by omega, fun m hm => by rw [G m hm]; omega, .inl ⟨hp, e2⟩⟩
 ·rw [G p hp] at h0; omega
 ·rw [G p hp] at h0; omega
end
structure Bf (W : Nat) (pl : List Int) (s : List Nat) (far : List Int) : Prop where
 len : far.length = pl.length
 low : ∀ p, p < pl.length → -1 ≤ far.getD p default
 src : ∀ p ∈ s, far.getD p default = 0
 why : ∀ p, p < pl.length → 0 ≤ far.getD p default → (p ∈ s ∧ far.getD p default = 0) ∨ ∃ n, n < pl.length ∧ Adj W p n ∧ pl.getD p default ≠ 1 ∧ 0 ≤ far.getD n default ∧ far.getD n default + kV (pl.getD p default) ≤ far.getD p default
 top : ∀ p, p < pl.length → far.getD p default ≤ 3 * sumL one0 far
def fine (pl far : List Int) (i n : Nat) : Prop := pl.getD i default = 1 ∨ far.getD n default < 0 ∨ (0 ≤ far.getD i default ∧ far.getD i default ≤ far.getD n default + kV (pl.getD i default))
section
variable {W : Nat} {pl : List Int} {s : List Nat} {far : List Int}
theorem Bf.flood (h : Bf W pl s far) (hf : ∀ i n, i < pl.length → n < pl.length → Adj W i n → fine pl far i n) : Flood W pl s far := by
 refine ⟨h.len, h.low, h.src, h.why, fun p n hp hn ha h0 hr => ?_⟩
 rcases hf n p hn hp ha.symm with h1 | h1 | h1
 ·exact absurd h1 hr
 ·omega
 ·exact h1
theorem Bf.better (h : Bf W pl s far) (hl : pl.length ≤ 1600) {i n : Nat} (hi : i < pl.length) (hn : n < pl.length) (ha : Adj W i n) (hne : i ≠ n) (hf : ¬ fine pl far i n) :
 Bf W pl s (far.set i (far.getD n default + kV (pl.getD i default))) ∧ sumL big0 (far.set i (far.getD n default + kV (pl.getD i default))) < sumL big0 far := by
 unfold fine at hf
 rw [not_or, not_or] at hf
 obtain ⟨f1, f2, f3⟩ := hf
 have hk := kV_b (pl.getD i default)
 have hil : i < far.length := by rw [h.len]; exact hi
 have top := h.top n hn
 have c1 := sumL_le one0 1 one0_le far
 rw [h.len] at c1
 obtain ⟨d, hd⟩ : ∃ d, d = far.getD n default + kV (pl.getD i default) := ⟨_, rfl⟩
 rw [← hd]
 have G := fun k => set_get d k hil
 have cnt := sumL_set one0 far i d hil
 have bg := sumL_set big0 far i d hil
 have o1 : one0 d = 1 := by unfold one0; rw [if_pos (by omega)]
 have b1 : big0 d = d.toNat := by unfold big0; rw [if_pos (by omega)]
 rw [o1] at cnt
 rw [b1] at bg
 have o2 := one0_le (far.getD i default)
 refine ⟨⟨by rw [List.length_set]; exact h.len, fun k hk2 => ?_, fun k hk2 => ?_, fun k hk2 hk0 => ?_, fun k hk2 => ?_⟩, ?_⟩
 ·rw [G]; split
  ·omega
  ·exact h.low k hk2
 ·rw [G, if_neg]
  ·exact h.src k hk2
  ·intro e; subst e
   have := h.src _ hk2
   exact f3 ⟨by omega, by omega⟩
 ·rw [G] at hk0 ⊢
  by_cases e : k = i
  ·subst e
   rw [if_pos rfl]
   refine .inr ⟨n, hn, ha, f1, ?_⟩
   rw [G, if_neg (Ne.symm hne)]; omega
  ·rw [if_neg e] at hk0 ⊢
   rcases h.why k hk2 hk0 with jw | ⟨m, n1, n2, n3, n4, n5⟩
   ·exact .inl jw
   ·refine .inr ⟨m, n1, n2, n3, ?_⟩
    rw [G]
    split
    ·rename_i e2; subst e2; omega
    ·exact ⟨n4, n5⟩
 ·rw [G]; split
  ·by_cases hneg : 0 ≤ far.getD i default
   ·have : one0 (far.getD i default) = 1 := by unfold one0; rw [if_pos hneg]
    have := h.top i hi
    omega
   ·have : one0 (far.getD i default) = 0 := by unfold one0; rw [if_neg hneg]
    omega
  ·have := h.top k hk2; omega
 ·by_cases hneg : 0 ≤ far.getD i default
  ·have : big0 (far.getD i default) = (far.getD i default).toNat := by unfold big0; rw [if_pos hneg]
   omega
  ·have : big0 (far.getD i default) = 5000 := by unfold big0; rw [if_neg hneg]
   omega
end
structure Nod where
 c : Cel
 far : Int
 all : Int
 deriving DecidableEq, Inhabited
def celW (W p : Nat) : Cel := ⟨((p % W : Nat) : Int), ((p / W : Nat) : Int)⟩
theorem celW_inj {W p n : Nat} (h : celW W p = celW W n) : p = n := by
 unfold celW at h
 simp only [Cel.mk.injEq] at h
 have h1 := Nat.div_add_mod p W
 have h2 := Nat.div_add_mod n W
 have e1 : p % W = n % W := by omega
 have e2 : p / W = n / W := by omega
 rw [← h1, ← h2, e1, e2]
def Cons (W L : Nat) (hh : Nat → Int) : Prop := ∀ p n, p < L → n < L → Adj W p n → hh p ≤ hh n + 2
structure As (W : Nat) (pl : List Int) (a : Nat) (hh : Nat → Int) (far : List Int) (q : List Nod) (done : Nat → Nat → Prop) : Prop where
 len : far.length = pl.length
 low : ∀ p, p < pl.length → -1 ≤ far.getD p default
 heap : HeapN Nod.all q q.length
 itm : ∀ x ∈ q, ∃ p : Nat, x.c = celW W p ∧ p < pl.length ∧ 0 ≤ x.far ∧ x.far ≤ 3 * sumL one0 far ∧ x.all = x.far + hh p ∧ (∀ m, m < pl.length → 0 ≤ far.getD m default → far.getD m default + hh m ≤ x.all) ∧ ((p = a ∧ x.far = 0) ∨ ∃ n, n < pl.length ∧ Adj W p n ∧ pl.getD p default ≠ 1 ∧ 0 ≤ far.getD n default ∧ x.far = far.getD n default + kV (pl.getD p default))
 src : far.getD a default = 0 ∨ (far.getD a default < 0 ∧ ∃ x ∈ q, x.c = celW W a ∧ x.far = 0)
 why : ∀ p, p < pl.length → 0 ≤ far.getD p default → (p = a ∧ far.getD p default = 0) ∨ ∃ n, n < pl.length ∧ Adj W p n ∧ pl.getD p default ≠ 1 ∧ 0 ≤ far.getD n default ∧ far.getD p default = far.getD n default + kV (pl.getD p default)
 top : ∀ p, p < pl.length → far.getD p default ≤ 3 * sumL one0 far
 all : ∀ p n, p < pl.length → n < pl.length → Adj W p n → done p n → 0 ≤ far.getD p default → pl.getD n default ≠ 1 →
  (0 ≤ far.getD n default ∧ far.getD n default ≤ far.getD p default + kV (pl.getD n default)) ∨ (far.getD n default < 0 ∧ ∃ x ∈ q, x.c = celW W n ∧ x.far ≤ far.getD p default + kV (pl.getD n default))
section
variable {W : Nat} {pl : List Int} {a : Nat} {hh : Nat → Int} {far : List Int} {q : List Nod} {done : Nat → Nat → Prop}
theorem As.skip (h : As W pl a hh far q done) (hq : 0 < q.length) {p : Nat} (hp : (q.getD 0 default).c = celW W p) (h0 : 0 ≤ far.getD p default) : As W pl a hh far (hpop Nod.all q) done := by
 have M := hpop_mem Nod.all q hq
 refine ⟨h.len, h.low, hpop_heap _ _ hq h.heap, fun x hx => h.itm x ((M x).2 (.inr hx)), ?_, h.why, h.top, fun p' n h1 h2 h3 h4 h5 h6 => ?_⟩
 ·rcases h.src with h7 | ⟨h7, x, hx, h8, h9⟩
  ·exact .inl h7
  ·refine .inr ⟨h7, x, ?_, h8, h9⟩
   rcases (M x).1 hx with e | e
   ·subst e; rw [hp] at h8; have := celW_inj h8; subst this; omega
   ·exact e
 ·rcases h.all p' n h1 h2 h3 h4 h5 h6 with h7 | ⟨h7, x, hx, h8, h9⟩
  ·exact .inl h7
  ·refine .inr ⟨h7, x, ?_, h8, h9⟩
   rcases (M x).1 hx with e | e
   ·subst e; rw [hp] at h8; have := celW_inj h8; subst this; omega
   ·exact e
theorem As.close (hW : 0 < W) (h : As W pl a hh far q fun _ _ => True) (hq : 0 < q.length) {p : Nat} (hp : (q.getD 0 default).c = celW W p) (h0 : far.getD p default < 0) :
 p < pl.length ∧ As W pl a hh (far.set p (q.getD 0 default).far) (hpop Nod.all q) (fun x _ => x ≠ p) := by
 have M := hpop_mem Nod.all q hq
 have mem0 : q.getD 0 default ∈ q := (M _).2 (.inl rfl)
 obtain ⟨p', e1, hpl, j0, jb, ja, jm, jw⟩ := h.itm _ mem0
 obtain rfl : p = p' := celW_inj (hp.symm.trans e1)
 have least : ∀ x ∈ q, (q.getD 0 default).all ≤ x.all := fun x hx => by
  obtain ⟨k, hk, rfl⟩ := mem_getD.1 hx
  exact heap_min _ h.heap k hk
 have hpL : p < far.length := by rw [h.len]; exact hpl
 generalize q.getD 0 default = x0 at *
 obtain ⟨c0, d, al⟩ := x0
 simp only at *
 have G := fun k => set_get d k hpL
 have cnt : sumL one0 (far.set p d) = sumL one0 far + 1 := by
  have := sumL_set one0 far p d hpL
  simp only [one0, if_neg (show ¬ 0 ≤ far.getD p default by omega), if_pos j0] at this; simpa [one0] using this
 refine ⟨hpl, by rw [List.length_set]; exact h.len, fun k hk => ?_, hpop_heap _ _ hq h.heap, fun x hx => ?_, ?_, fun k hk hk0 => ?_, fun k hk => ?_, fun u n h1 h2 h3 h4 h5 h6 => ?_⟩
 ·rw [G]; split
  ·omega
  ·exact h.low k hk
 ·have hx' := (M x).2 (.inr hx)
  obtain ⟨k, e2, hk, l0, lb, la, lm, lw⟩ := h.itm x hx'
  refine ⟨k, e2, hk, l0, by rw [cnt]; omega, la, fun m hm hm0 => ?_, ?_⟩
  ·rw [G] at hm0 ⊢; split
   ·rename_i e; subst e; have := least x hx'; omega
   ·rename_i e; rw [if_neg e] at hm0; exact lm m hm hm0
  ·rcases lw with lw | ⟨n, n1, n2, n3, n4, n5⟩
   ·exact .inl lw
   ·refine .inr ⟨n, n1, n2, n3, ?_⟩
    rw [G, if_neg (by intro e; subst e; omega)]; exact ⟨n4, n5⟩
 ·rw [G]
  rcases h.src with h7 | ⟨h7, x, hx, h8, h9⟩
  ·rw [if_neg (by intro e; subst e; omega)]; exact .inl h7
  ·by_cases e : a = p
   ·subst e
    rw [if_pos rfl]
    have := least x hx
    obtain ⟨k, e2, _, _, _, la, _, _⟩ := h.itm x hx
    have := celW_inj (e2.symm.trans h8)
    subst this
    exact .inl (by omega)
   ·rw [if_neg e]
    refine .inr ⟨h7, x, ?_, h8, h9⟩
    rcases (M x).1 hx with e3 | e3
    ·subst e3; exact absurd (celW_inj (h8.symm.trans hp)) e
    ·exact e3
 ·rw [G] at hk0 ⊢
  by_cases e : k = p
  ·subst e
   rw [if_pos rfl]
   rcases jw with jw | ⟨n, n1, n2, n3, n4, n5⟩
   ·exact .inl jw
   ·refine .inr ⟨n, n1, n2, n3, ?_⟩
    rw [G, if_neg (by intro e; subst e; omega)]; omega
  ·rw [if_neg e] at hk0 ⊢
   rcases h.why k hk hk0 with jw | ⟨n, n1, n2, n3, n4, n5⟩
   ·exact .inl jw
   ·refine .inr ⟨n, n1, n2, n3, ?_⟩
    rw [G, if_neg (by intro e; subst e; omega)]; exact ⟨n4, n5⟩
 ·rw [G, cnt]; split
  ·omega
  ·have := h.top k hk; omega
 ·rw [G, if_neg h4] at h5
  rw [G, G, if_neg h4]
  rcases h.all u n h1 h2 h3 trivial h5 h6 with h7 | ⟨h7, x, hx, h8, h9⟩
  ·rw [if_neg (by intro e; subst e; omega)]; exact .inl h7
  ·by_cases e : n = p
   ·subst e
    rw [if_pos rfl]
    have := least x hx
    obtain ⟨k, e2, _, _, _, la, _, _⟩ := h.itm x hx
    have := celW_inj (e2.symm.trans h8)
    subst this
    exact .inl ⟨j0, by omega⟩
   ·rw [if_neg e]
    refine .inr ⟨h7, x, ?_, h8, h9⟩
    rcases (M x).1 hx with e3 | e3
    ·subst e3; exact absurd (celW_inj (h8.symm.trans hp)) e
    ·exact e3
theorem As.look (hc : Cons W pl.length hh) {p n : Nat} (h : As W pl a hh far q done) (hn : n < pl.length) (hp : p < pl.length) (ha : Adj W p n) (h0 : 0 ≤ far.getD p default) (top : ∀ m, m < pl.length → 0 ≤ far.getD m default → far.getD m default + hh m ≤ far.getD p default + hh p) (hb : far.getD p default + 3 ≤ 3 * sumL one0 far) (done' : Nat → Nat → Prop) (hd : ∀ x y, done' x y → done x y ∨ (x = p ∧ y = n))
 {q' : List Nod} (hq' : ((pl.getD n default = 1 ∨ 0 ≤ far.getD n default) ∧ q' = q) ∨ (pl.getD n default ≠ 1 ∧ far.getD n default < 0 ∧ q' = hpush Nod.all q ⟨celW W n, far.getD p default + kV (pl.getD n default), far.getD p default + kV (pl.getD n default) + hh n⟩)) : As W pl a hh far q' done' := by
 have hcn := hc p n hp hn ha
 have sub : ∀ x ∈ q, x ∈ q' := fun x hx => by
  rcases hq' with ⟨_, rfl⟩ | ⟨_, _, rfl⟩
  ·exact hx
  ·exact (hpush_mem _ _ _ _).2 (.inl hx)
 refine ⟨h.len, h.low, ?_, fun x hx => ?_, ?_, h.why, h.top, fun u b h1 h2 h3 h4 h5 h6 => ?_⟩
 ·rcases hq' with ⟨_, rfl⟩ | ⟨_, _, rfl⟩
  ·exact h.heap
  ·exact hpush_heap _ _ _ h.heap
 ·rcases hq' with ⟨_, rfl⟩ | ⟨g1, g2, rfl⟩
  ·exact h.itm x hx
  ·rcases (hpush_mem _ _ _ _).1 hx with e | e
   ·exact h.itm x e
   ·subst e
    have hk := kV_b (pl.getD n default)
    exact ⟨n, rfl, hn, by simp only; omega, by simp only; omega, rfl, fun m hm hm0 => by have := top m hm hm0; simp only; omega, .inr ⟨p, hp, ha.symm, g1, h0, rfl⟩⟩
 ·rcases h.src with h7 | ⟨h7, x, hx, h8, h9⟩
  ·exact .inl h7
  ·exact .inr ⟨h7, x, sub x hx, h8, h9⟩
 ·rcases hd u b h4 with h4 | ⟨rfl, rfl⟩
  ·rcases h.all u b h1 h2 h3 h4 h5 h6 with h7 | ⟨h7, x, hx, h8, h9⟩
   ·exact .inl h7
   ·exact .inr ⟨h7, x, sub x hx, h8, h9⟩
  ·rcases hq' with ⟨g | g, rfl⟩ | ⟨g1, g2, rfl⟩
   ·exact absurd g h6
   ·have hk := kV_b (pl.getD b default)
    have := top b hn g
    have := hc u b hp hn ha
    exact .inl ⟨g, by omega⟩
   ·exact .inr ⟨g2, _, (hpush_mem _ _ _ _).2 (.inr rfl), rfl, Int.le_refl _⟩
theorem As.start (ha : a < pl.length) : As W pl a hh (List.replicate pl.length (-1)) (hpush Nod.all [] ⟨celW W a, 0, 0 + hh a⟩) fun _ _ => True := by
 have G := fun p hp => getD_rep pl.length p hp
 refine ⟨by simp, fun p hp => by rw [G p hp]; omega, hpush_heap _ _ _ (fun k h1 h2 => absurd h2 (Nat.not_lt_zero _)), fun x hx => ?_, .inr ⟨by rw [G a ha]; omega, _, (hpush_mem _ _ _ _).2 (.inr rfl), rfl, rfl⟩, fun p hp h0 => ?_, fun p hp => by rw [G p hp]; omega, fun p n hp _ _ _ h0 _ => ?_⟩
 ·rcases (hpush_mem _ _ _ _).1 hx with e | e
  ·simp at e
  ·subst e
   exact ⟨a, rfl, ha, Int.le_refl _, by simp only; omega, rfl, fun m hm h0 => by rw [G m hm] at h0; omega, .inl ⟨rfl, rfl⟩⟩
 ·rw [G p hp] at h0; omega
 ·rw [G p hp] at h0; omega
variable {F : List Int}
theorem As.up (h : As W pl a hh far q done) (hF : Flood W pl [a] F) : ∀ (N p : Nat), p < pl.length → 0 ≤ far.getD p default → far.getD p default ≤ N → 0 ≤ F.getD p default ∧ F.getD p default ≤ far.getD p default := by
 intro N
 induction N using Nat.strongRecOn with
 | _ N ih =>
  intro p hp h0 hN
  rcases h.why p hp h0 with ⟨h1, h2⟩ | ⟨n, hn, ha, hr, h3, h4⟩
  ·subst h1; rw [hF.src p (by simp)]; omega
  ·have hk := kV_b (pl.getD p default)
   obtain ⟨k, hk2⟩ := Int.eq_ofNat_of_zero_le h3
   have := ih k (by omega) n hn h3 (by omega)
   have := hF.all n p hn hp ha.symm this.1 hr
   omega
theorem As.down (hc : Cons W pl.length hh) (h : As W pl a hh far q fun _ _ => True) (ha : a < pl.length) (hF : Flood W pl [a] F) : ∀ (N p : Nat), p < pl.length → 0 ≤ F.getD p default → F.getD p default ≤ N →
 (0 ≤ far.getD p default ∧ far.getD p default ≤ F.getD p default) ∨ ∃ x ∈ q, x.all ≤ F.getD p default + hh p := by
 intro N
 induction N using Nat.strongRecOn with
 | _ N ih =>
  intro p hp h0 hN
  have itm : ∀ x ∈ q, x.c = celW W p → x.all = x.far + hh p := fun x hx e => by
   obtain ⟨k, e2, _, _, _, la, _, _⟩ := h.itm x hx
   have := celW_inj (e2.symm.trans e)
   subst this; exact la
  rcases hF.why p hp h0 with ⟨h1, h2⟩ | ⟨n, hn, hadj, hr, h3, h4⟩
  ·obtain rfl : p = a := by simpa using h1
   rcases h.src with h7 | ⟨_, x, hx, h8, h9⟩
   ·exact .inl (by omega)
   ·exact .inr ⟨x, hx, by rw [itm x hx h8]; omega⟩
  ·have hk := kV_b (pl.getD p default)
   obtain ⟨k, hk2⟩ := Int.eq_ofNat_of_zero_le h3
   rcases ih k (by omega) n hn h3 (by omega) with ⟨g1, g2⟩ | ⟨x, hx, hxa⟩
   ·rcases h.all n p hn hp hadj.symm trivial g1 hr with g3 | ⟨_, x, hx, e, g4⟩
    ·exact .inl (by omega)
    ·exact .inr ⟨x, hx, by rw [itm x hx e]; omega⟩
   ·have := hc n p hn hp hadj.symm
    exact .inr ⟨x, hx, by omega⟩
theorem As.same (hc : Cons W pl.length hh) (h : As W pl a hh far q fun _ _ => True) (ha : a < pl.length) (hF : Flood W pl [a] F) {p : Nat} (hp : p < pl.length) (h0 : 0 ≤ far.getD p default) : far.getD p default = F.getD p default := by
 obtain ⟨N, hN⟩ := Int.eq_ofNat_of_zero_le h0
 have h1 := h.up hF N p hp h0 (by omega)
 obtain ⟨M, hM⟩ := Int.eq_ofNat_of_zero_le h1.1
 rcases h.down hc ha hF M p hp h1.1 (by omega) with h2 | ⟨x, hx, hxa⟩
 ·omega
 ·obtain ⟨k, _, _, _, _, _, lm, _⟩ := h.itm x hx
  have := lm p hp h0
  omega
theorem As.known (hc : Cons W pl.length hh) (h : As W pl a hh far q fun _ _ => True) (ha : a < pl.length) (hF : Flood W pl [a] F) {p : Nat} (hp : p < pl.length) (h0 : 0 ≤ F.getD p default) (hout : ∀ x ∈ q, ¬ x.all ≤ F.getD p default + hh p) : far.getD p default = F.getD p default := by
 obtain ⟨M, hM⟩ := Int.eq_ofNat_of_zero_le h0
 rcases h.down hc ha hF M p hp h0 (by omega) with h2 | ⟨x, hx, hxa⟩
 ·exact h.same hc ha hF hp h2.1
 ·exact absurd hxa (hout x hx)
end
theorem flood_of_bf {W : Nat} {pl : List Int} {s : List Nat} (hW : 0 < W) (hl : pl.length ≤ 1600) : ∀ (N : Nat) (far : List Int), sumL big0 far ≤ N → Bf W pl s far → ∃ F, Flood W pl s F := by
 intro N
 induction N using Nat.strongRecOn with
 | _ N ih =>
  intro far hN hB
  by_cases hf : ∀ i n, i < pl.length → n < pl.length → Adj W i n → fine pl far i n
  ·exact ⟨far, hB.flood hf⟩
  ·simp only [Classical.not_forall] at hf
   obtain ⟨i, n, hi, hn, ha, hnf⟩ := hf
   obtain ⟨b1, b2⟩ := hB.better hl hi hn ha (Adj.ne hW ha) hnf
   exact ih _ (by omega) _ (Nat.le_refl _) b1
theorem flood_ex {W : Nat} {pl : List Int} {s : List Nat} (hW : 0 < W) (hl : pl.length ≤ 1600) (hs : ∀ p ∈ s, p < pl.length) : ∃ F, Flood W pl s F := by
 have G : ∀ p, p < pl.length → ((List.range pl.length).map fun p => if p ∈ s then (0 : Int) else -1).getD p default = if p ∈ s then 0 else -1 := fun p hp => by rw [getD_at _ _ (by simpa using hp)]; simp
 refine flood_of_bf hW hl _ ((List.range pl.length).map fun p => if p ∈ s then (0 : Int) else -1) (Nat.le_refl _) ⟨by simp, fun p hp => ?_, fun p hp => ?_, fun p hp h0 => ?_, fun p hp => ?_⟩
 ·rw [G p hp]; split <;> omega
 ·rw [G p (hs p hp), if_pos hp]
 ·rw [G p hp] at h0 ⊢
  split at h0
  ·rename_i h; rw [if_pos h]; exact .inl ⟨h, rfl⟩
  ·omega
 ·rw [G p hp]; split <;> omega
end Go.Proofs.YtllmjdcblfkfaaaGreat
namespace Go.Proofs.YtllmjdcblfkfaaaGreat
set_option linter.all false
open Go.RowKit
set_option maxRecDepth 100000
theorem ixOf_any {α : Type} (p : α → Bool) (l : List α) : decide (0 ≤ ixOf p l) = l.any p := by
 unfold ixOf
 cases h : l.findIdx? p with
 | none =>
  have := List.findIdx?_eq_none_iff.1 h
  simp only [show ¬ (0 : Int) ≤ -1 by omega, decide_false]
  symm; rw [List.any_eq_false]; intro x hx; simp [this x hx]
 | some i =>
  obtain ⟨hi, h1, _⟩ := List.findIdx?_eq_some_iff_getElem.1 h
  simp only [Int.natCast_nonneg, decide_true]
  symm; rw [List.any_eq_true]; exact ⟨_, List.getElem_mem hi, h1⟩
theorem int_ix (F : FuncId) (a b : List AV) (l : List Int) (p : Int → Bool) (hl : l.length ≤ 9223372036854775807) (hp : ∀ n ∈ l, Spec Tryz.prog F (a ++ [I .i64 n] ++ b) [] (B (p n)) []) (ha : ∀ h, cvL [] h a = a) (hb : ∀ h, cvL [] h b = b) :
 Spec Tryz.prog 143 [.c (.sl 1 (l.map i64P)), .clo (.func F) a b] [] (I .i64 (ixOf p l)) [] := by
 refine spec_am Tryz.func143 rfl rfl mix 19 rfl [.tmp 4] Tryz.results143 (Nat.le_of_ble_eq_true rfl) ?_
 simp (etaStruct := .none) only [push_cast, DrawG, seval]
 refine loopI (fun k : Nat => ⟨[(8, I .i64 k), (7, I .i64 l.length), (0, .c (.sl 1 (l.map i64P))), (1, .clo (.func F) a b)], [], 0⟩) (fun k => k ≤ l.length ∧ ∀ j (hj : j < l.length), j < k → p l[j] = false) (fun k => l.length - k) 0 ⟨Nat.zero_le _, fun j _ h => by omega⟩ (To.mk [] rfl rfl List.nodup_nil trivial ?_) ?_
 ·simp (etaStruct := .none) only [push_cast, DrawG, seval, ha, hb]
 ·rintro k ⟨hk, hn⟩
  simp (etaStruct := .none) only [push_cast, DrawG, seval]
  refine cond_i (fun h => ?_) (fun h => ?_)
  ·have hlt : k < l.length := by simpa using h
   simp (etaStruct := .none) only [push_cast, DrawG, seval, getD_map _ _ _ hlt, i64P]
   repeat with_reducible refine obA ?_
   refine callP (hp _ (List.getElem_mem hlt)) (by simp only [cvL_append, ha, hb, cvL, cv]; exact WkL.refl _) ?_
   simp (etaStruct := .none) only [push_cast, DrawG, seval]
   refine cond_i (fun h => ?_) (fun h => ?_)
   ·simp (etaStruct := .none) only [push_cast, DrawG, seval]
    exact ret0 rfl trivial (Wk.of (by rw [ixOf_hit p l k hlt h hn]; rfl))
   ·simp (etaStruct := .none) only [push_cast, DrawG, seval]
    refine ⟨k + 1, ⟨by omega, fun j hj hjk => ?_⟩, by omega, To.mk [] rfl rfl List.nodup_nil trivial ?_⟩
    ·by_cases e : j = k
     ·subst e; exact h
     ·exact hn j hj (by omega)
    ·simp (etaStruct := .none) only [push_cast, DrawG, seval, ha, hb]
     simp (disch := omega) only [wrap_in, wk_self, tdv, tmd]
  ·have hge : k = l.length := by simp at h; omega
   subst hge
   simp (etaStruct := .none) only [push_cast, DrawG, seval]
   exact ret0 rfl trivial (Wk.of (by rw [ixOf_miss p l (fun j hj => hn j hj hj)]; rfl))
theorem int_any (F : FuncId) (a b : List AV) (l : List Int) (p : Int → Bool) (hl : l.length ≤ 9223372036854775807) (hp : ∀ n ∈ l, Spec Tryz.prog F (a ++ [I .i64 n] ++ b) [] (B (p n)) []) (ha : ∀ h, cvL [] h a = a) (hb : ∀ h, cvL [] h b = b) :
 Spec Tryz.prog 123 [.c (.sl 1 (l.map i64P)), .clo (.func F) a b] [] (B (l.any p)) [] := by
 refine spec_am Tryz.func123 rfl rfl mix 9 rfl [.tmp 4] Tryz.results123 (Nat.le_of_ble_eq_true rfl) ?_
 simp (etaStruct := .none) only [push_cast, DrawG, seval]
 refine callP (int_ix F a b l p hl hp ha hb) (by simp only [ha, hb, cvL, cv]; exact WkL.refl _) ?_
 simp (etaStruct := .none) only [push_cast, DrawG, seval]
 exact ret0 rfl trivial (Wk.of (by rw [ixOf_any]; rfl))
def within (n a b : Int) : Bool := decide (a ≤ n) && decide (n ≤ b)
theorem within_iff {n a b : Int} : within n a b = true ↔ a ≤ n ∧ n ≤ b := by unfold within; simp
theorem within_f {n a b : Int} : within n a b = false ↔ ¬ (a ≤ n ∧ n ≤ b) := by unfold within; simp
theorem between_s (n a b : Int) : Spec Tryz.prog 8 [I .i64 n, I .i64 a, I .i64 b] [] (B (within n a b)) [] := by
 refine spec_am Tryz.func8 rfl rfl mix 15 rfl [.tmp 6] Tryz.results8 (Nat.le_of_ble_eq_true rfl) ?_
 (try (refine xst ?_; try exact xtI))
 exact ret0 rfl trivial (Wk.of (congrArg B (by unfold within; first | rfl | simp)))
def fldBad (f : Fld) : Bool := !within f.w 1 40 || !within f.h 1 40
def fldForm (f : Fld) : Bool := !decide ((f.p.length : Int) = f.w * f.h) || f.p.any (fun p => decide (p < 0) || decide (4 ≤ p))
def fldE (f : Fld) : Int := if fldBad f then 1 else if fldForm f then 4 else 0
theorem fldE_ok {f : Fld} (h : fldE f = 0) : (1 ≤ f.w ∧ f.w ≤ 40) ∧ (1 ≤ f.h ∧ f.h ≤ 40) ∧ (f.p.length : Int) = f.w * f.h ∧ ∀ p ∈ f.p, 0 ≤ p ∧ p < 4 := by
 unfold fldE at h
 split at h
 ·simp at h
 ·rename_i h1
  split at h
  ·simp at h
  ·rename_i h2
   simp only [fldBad, Bool.or_eq_true, Bool.not_eq_true', not_or, Bool.not_eq_false, within_iff] at h1
   simp only [fldForm, Bool.or_eq_true, Bool.not_eq_true', decide_eq_false_iff_not, not_or, Decidable.not_not, List.any_eq_true, not_exists, not_and, decide_eq_true_eq] at h2
   exact ⟨h1.1, h1.2, h2.1, fun p hp => by have := h2.2 p hp; omega⟩
theorem side_s (n : Int) : Spec Tryz.prog 122 [I .i64 n] [] (B (within n 1 40)) [] := by
 refine spec_am Tryz.func122 rfl rfl mix 9 rfl [.tmp 2] Tryz.results122 (Nat.le_of_ble_eq_true rfl) ?_
 (try (refine xst ?_; try exact xtI))
 exact ret0 rfl trivial (Wk.of (congrArg B (by unfold within; first | rfl | simp)))
theorem fclo_s (n : Int) : Spec Tryz.prog 124 ([] ++ [I .i64 n] ++ []) [] (B (decide (n < 0) || decide (4 ≤ n))) [] := by
 refine spec_am Tryz.func124 rfl rfl mix 9 rfl [.tmp 2] Tryz.results124 (Nat.le_of_ble_eq_true rfl) ?_
 (try (refine xst ?_; try exact xtI))
 exact ret0 rfl trivial (Wk.refl _)
theorem fcheck_s (f : Fld) (hl : f.p.length ≤ 9223372036854775807) : Spec Tryz.prog 89 [fldA f] [] (I .i64 (fldE f)) [] := by
 refine spec_am Tryz.func89 rfl rfl mix 27 rfl [.tmp 2] Tryz.results89 (Nat.le_of_ble_eq_true rfl) ?_
 (try (refine xst ?_; try exact xtI))
 refine callP (side_s f.w) (WkL.refl _) ?_
 (try (refine xst ?_; try exact xtI))
 refine gcallP (fun hc => side_s f.h) (WkL.refl _) (by intro hc; (try simp (etaStruct := .none) only [push_cast, DrawG, seval]); (try simp_all)) ?_
 (try (refine xst ?_; try exact xtI))
 refine cond_i (fun h1 => ?_) (fun h1 => ?_)
 ·(try (refine xst ?_; try exact xtI))
  (first | (refine retA rfl (Wk.of ?_); (try simp (etaStruct := .none) only [push_cast, DrawG, seval]); first | done | (simp [fldE, fldBad, fldForm, *]; done) | (simp_all [fldE, fldBad, fldForm]; done)) | (refine retA rfl ?_; (try simp (etaStruct := .none) only [push_cast, DrawG, seval]); (try simp [fldE, fldBad, fldForm, *]); (try exact wkc)))
 ·have hw : within f.w 1 40 = true ∧ within f.h 1 40 = true := by simpa using h1
  obtain ⟨h3, h4⟩ := hw
  rw [within_iff] at h3 h4
  have hm1 : 0 ≤ f.w * f.h := Int.mul_nonneg (by omega) (by omega)
  have hm2 : f.w * f.h ≤ 40 * 40 := Int.mul_le_mul h3.2 h4.2 (by omega) (by omega)
  (try (refine xst ?_; try exact xtI))
  refine gcallP (fun hc => int_any _ [] [] f.p (fun p => decide (p < 0) || decide (4 ≤ p)) hl (fun n _ => fclo_s n) (fun _ => rfl) (fun _ => rfl)) (WkL.refl _) (by intro hc; (try simp (etaStruct := .none) only [push_cast, DrawG, seval]); (try simp_all)) ?_
  (try (refine xst ?_; try exact xtI))
  refine cond_i (fun h2 => ?_) (fun h2 => ?_)
  ·(try (refine xst ?_; try exact xtI))
   (first | (refine retA rfl (Wk.of ?_); (try simp (etaStruct := .none) only [push_cast, DrawG, seval]); first | done | (simp [fldE, fldBad, fldForm, *]; done) | (simp_all [fldE, fldBad, fldForm]; done)) | (refine retA rfl ?_; (try simp (etaStruct := .none) only [push_cast, DrawG, seval]); (try simp [fldE, fldBad, fldForm, *]); (try exact wkc)))
  ·(try (refine xst ?_; try exact xtI))
   (first | (refine retA rfl (Wk.of ?_); (try simp (etaStruct := .none) only [push_cast, DrawG, seval]); first | done | (simp [fldE, fldBad, fldForm, *]; done) | (simp_all [fldE, fldBad, fldForm]; done)) | (refine retA rfl ?_; (try simp (etaStruct := .none) only [push_cast, DrawG, seval]); (try simp [fldE, fldBad, fldForm, *]); (try exact wkc)))
def inF (f : Fld) (c : Cel) : Bool := within c.x 0 (f.w - 1) && within c.y 0 (f.h - 1)
theorem inF_iff {f : Fld} {c : Cel} : inF f c = true ↔ (0 ≤ c.x ∧ c.x < f.w) ∧ (0 ≤ c.y ∧ c.y < f.h) := by
 unfold inF; rw [Bool.and_eq_true, within_iff, within_iff]; omega
theorem inF_f {f : Fld} {c : Cel} : inF f c = false ↔ ¬ ((0 ≤ c.x ∧ c.x < f.w) ∧ (0 ≤ c.y ∧ c.y < f.h)) := by
 rw [← inF_iff, Bool.not_eq_true]
def placeV (f : Fld) (c : Cel) : Int := f.p.getD (c.y * f.w + c.x).toNat default
theorem place_ix {f : Fld} {c : Cel} (h : fldE f = 0) (hc : inF f c = true) : 0 ≤ c.y * f.w ∧ c.y * f.w ≤ 1600 ∧ 0 ≤ c.y * f.w + c.x ∧ c.y * f.w + c.x < f.p.length ∧ f.p.length ≤ 1600 := by
 obtain ⟨h1, h2, h3, _⟩ := fldE_ok h
 obtain ⟨h4, h5⟩ := inF_iff.1 hc
 have a1 : 0 ≤ c.y * f.w := Int.mul_nonneg (by omega) (by omega)
 have a2 : c.y * f.w ≤ (f.h - 1) * f.w := Int.mul_le_mul_of_nonneg_right (by omega) (by omega)
 have a3 : (f.h - 1) * f.w = f.w * f.h - f.w := by rw [Int.sub_mul, Int.mul_comm f.h, Int.one_mul]
 have a4 : f.w * f.h ≤ 40 * 40 := Int.mul_le_mul h1.2 h2.2 (by omega) (by omega)
 omega
def atV (f : Fld) (c : Cel) : Int × Int := if fldE f ≠ 0 then (0, fldE f) else if inF f c then (placeV f c, 0) else (0, 7)
theorem at_s (f : Fld) (c : Cel) (hl : f.p.length ≤ 9223372036854775807) : Spec Tryz.prog 141 [fldA f, celA c] [] (.tup [I .i64 (atV f c).1, I .i64 (atV f c).2]) [] := by
 refine spec_am Tryz.func141 rfl rfl mix 46 rfl [.tmp 4, .tmp 5] Tryz.results141 (Nat.le_of_ble_eq_true rfl) ?_
 (try (refine xst ?_; try exact xtI))
 refine caP (fcheck_s f hl) ?_
 (try (refine xst ?_; try exact xtI))
 refine cond_i (fun h1 => ?_) (fun h1 => ?_)
 ·(try replace h1 := xhh h1)
  (try (refine xst ?_; try exact xtI))
  (first | (refine retA rfl (Wk.of ?_); (try simp (etaStruct := .none) only [push_cast, DrawG, seval]); first | done | (simp [atV, placeV, *]; done) | (simp_all [atV, placeV]; done)) | (refine retA rfl ?_; (try simp (etaStruct := .none) only [push_cast, DrawG, seval]); (try simp [atV, placeV, *]); (try exact wkc)))
 ·(try replace h1 := xhh h1)
  obtain ⟨e1, e2, e3, e4⟩ := fldE_ok h1
  (try (refine xst ?_; try exact xtI))
  refine cond_i (fun h2 => ?_) (fun h2 => ?_)
  ·(try replace h2 := xhh h2)
   have hc : inF f c = false := inF_f.2 (by omega)
   (try (refine xst ?_; try exact xtI))
   (first | (refine retA rfl (Wk.of ?_); (try simp (etaStruct := .none) only [push_cast, DrawG, seval]); first | done | (simp [atV, placeV, *]; done) | (simp_all [atV, placeV]; done)) | (refine retA rfl ?_; (try simp (etaStruct := .none) only [push_cast, DrawG, seval]); (try simp [atV, placeV, *]); (try exact wkc)))
  ·(try replace h2 := xhh h2)
   have hc : inF f c = true := inF_iff.2 (by omega)
   obtain ⟨i1, i2, i3, i4, i5⟩ := place_ix h1 hc
   (iterate 2 ((try simp (etaStruct := .none) only [push_cast, DrawG, seval, getD_in _ _ _ (show (c.y * f.w + c.x).toNat < f.p.length by omega), i64P]); (try (refine xsu ?_; try exact xtI))))
   (first | (refine retA rfl (Wk.of ?_); (try simp (etaStruct := .none) only [push_cast, DrawG, seval]); first | done | (simp [atV, placeV, *]; done) | (simp_all [atV, placeV]; done)) | (refine retA rfl ?_; (try simp (etaStruct := .none) only [push_cast, DrawG, seval]); (try simp [atV, placeV, *]); (try exact wkc)))
theorem fldE_form {f : Fld} (h1 : fldBad f = false) {i : Nat} (hi : i < f.p.length) (h : within (f.p.getD i default) 0 3 = false) : fldE f = 4 := by
 have : fldForm f = true := by
  unfold fldForm
  rw [Bool.or_eq_true]
  refine .inr (List.any_eq_true.2 ⟨_, List.getElem_mem hi, ?_⟩)
  rw [getD_at _ _ hi, within_f] at h
  simp; omega
 unfold fldE; rw [h1, this]; rfl
theorem fldE_fine {f : Fld} (h1 : fldBad f = false) (h2 : (f.p.length : Int) = f.w * f.h) (h : ∀ j, j < f.p.length → within (f.p.getD j default) 0 3 = true) : fldE f = 0 := by
 have : fldForm f = false := by
  unfold fldForm
  rw [Bool.or_eq_false_iff, List.any_eq_false]
  refine ⟨by simp [h2], fun p hp => ?_⟩
  obtain ⟨i, hi, rfl⟩ := List.getElem_of_mem hp
  have := h i hi
  rw [getD_at _ _ hi, within_iff] at this
  simp; omega
 unfold fldE; rw [h1, this]; rfl
theorem fright_s (f : Fld) (hl : f.p.length ≤ 9223372036854775807) : Spec Tryz.prog 41 [fldA f] [] (I .i64 (fldE f)) [] := by
 refine spec_am Tryz.func41 rfl rfl mix 35 rfl [.tmp 2] Tryz.results41 (Nat.le_of_ble_eq_true rfl) ?_
 (try (refine xst ?_; try exact xtI))
 refine caP (between_s f.w 1 40) ?_
 (try (refine xst ?_; try exact xtI))
 refine gcP (fun hcc => between_s f.h 1 40) ?_
 (try (refine xst ?_; try exact xtI))
 refine cond_i (fun h1 => ?_) (fun h1 => ?_)
 ·(try replace h1 := xhh h1)
  have hb : fldBad f = true := by unfold fldBad; simpa using h1
  (try (refine xst ?_; try exact xtI))
  (first | (refine retA rfl (Wk.of ?_); (try simp (etaStruct := .none) only [push_cast, DrawG, seval]); first | done | (simp [fldE, fldForm, *]; done) | (simp_all [fldE, fldForm]; done)) | (refine retA rfl ?_; (try simp (etaStruct := .none) only [push_cast, DrawG, seval]); (try simp [fldE, fldForm, *]); (try exact wkc)))
 ·(try replace h1 := xhh h1)
  have hb : fldBad f = false := by unfold fldBad; simpa using h1
  have hw : within f.w 1 40 = true ∧ within f.h 1 40 = true := by simpa using h1
  obtain ⟨h3, h4⟩ := hw
  rw [within_iff] at h3 h4
  have hm1 : 0 ≤ f.w * f.h := Int.mul_nonneg (by omega) (by omega)
  have hm2 : f.w * f.h ≤ 40 * 40 := Int.mul_le_mul h3.2 h4.2 (by omega) (by omega)
  (try (refine xst ?_; try exact xtI))
  refine cond_i (fun h2 => ?_) (fun h2 => ?_)
  ·(try replace h2 := xhh h2)
   (try (refine xst ?_; try exact xtI))
   (first | (refine retA rfl (Wk.of ?_); (try simp (etaStruct := .none) only [push_cast, DrawG, seval]); first | done | (simp [fldE, fldForm, *]; done) | (simp_all [fldE, fldForm]; done)) | (refine retA rfl ?_; (try simp (etaStruct := .none) only [push_cast, DrawG, seval]); (try simp [fldE, fldForm, *]); (try exact wkc)))
  ·(try replace h2 := xhh h2)
   (try (refine xst ?_; try exact xtI))
   refine loopI (fun k : Nat => ⟨[(27, I .i64 k), (26, I .i64 f.p.length), (25, .c (.sl 1 (f.p.map i64P)))], [], 0⟩) (fun k : Nat => k ≤ f.p.length ∧ ∀ j, j < k → within (f.p.getD j default) 0 3 = true) (fun k : Nat => f.p.length - k) (0) (⟨Nat.zero_le _, fun j h => by omega⟩) (To.mk [] rfl rfl List.nodup_nil trivial ?_) ?_
   ·simp (etaStruct := .none) only [push_cast, DrawG, seval]
   rintro k ⟨hk, hn⟩
   (try (refine xst ?_; try exact xtI))
   refine cond_i (fun h3 => ?_) (fun h3 => ?_)
   ·(try replace h3 := xhh h3)
    have hlt : k < f.p.length := by omega
    (iterate 2 ((try simp (etaStruct := .none) only [push_cast, DrawG, seval, getD_in _ _ _ hlt, i64P]); (try (refine xsu ?_; try exact xtI))))
    refine caP (between_s (f.p.getD k default) 0 3) ?_
    (iterate 2 ((try simp (etaStruct := .none) only [push_cast, DrawG, seval, getD_in _ _ _ hlt, i64P]); (try (refine xsu ?_; try exact xtI))))
    refine cond_i (fun h4 => ?_) (fun h4 => ?_)
    ·(try replace h4 := xhh h4)
     (iterate 2 ((try simp (etaStruct := .none) only [push_cast, DrawG, seval, getD_in _ _ _ hlt, i64P]); (try (refine xsu ?_; try exact xtI))))
     exact ret0 rfl trivial (Wk.of (by rw [fldE_form hb hlt (by simpa using h4)]; rfl))
    ·(try replace h4 := xhh h4)
     (iterate 2 ((try simp (etaStruct := .none) only [push_cast, DrawG, seval, getD_in _ _ _ hlt, i64P]); (try (refine xsu ?_; try exact xtI))))
     refine ⟨k + 1, ⟨by omega, fun j hj => by rcases Nat.lt_or_ge j k with h | h; exact hn j h; rw [show j = k by omega]; simpa using h4⟩, by omega, To.mk [] rfl rfl List.nodup_nil trivial ?_⟩
     ·(iterate 2 ((try simp (etaStruct := .none) only [push_cast, DrawG, seval, getD_in _ _ _ hlt, i64P]); (try (refine xsu ?_; try exact xtI))))
   ·(try replace h3 := xhh h3)
    (try (refine xst ?_; try exact xtI))
    exact ret0 rfl trivial (Wk.of (by rw [fldE_fine hb (by omega) (fun j hj => hn j (by omega))]; rfl))
theorem in_s (f : Fld) (c : Cel) (hw : 0 ≤ f.w ∧ f.w ≤ 1000000) (hh : 0 ≤ f.h ∧ f.h ≤ 1000000) : Spec Tryz.prog 73 [fldA f, celA c] [] (B (inF f c)) [] := by
 refine spec_am Tryz.func73 rfl rfl mix 19 rfl [.tmp 4] Tryz.results73 (Nat.le_of_ble_eq_true rfl) ?_
 (try (refine xst ?_; try exact xtI))
 refine caP (between_s c.x 0 (f.w - 1)) ?_
 (try (refine xst ?_; try exact xtI))
 refine gcP (fun hcc => between_s c.y 0 (f.h - 1)) ?_
 (try (refine xst ?_; try exact xtI))
 (first | (refine retA rfl (Wk.of ?_); (try simp (etaStruct := .none) only [push_cast, DrawG, seval]); first | done | (simp [inF, *]; done) | (simp_all [inF]; done)) | (refine retA rfl ?_; (try simp (etaStruct := .none) only [push_cast, DrawG, seval]); (try simp [inF, *]); (try exact wkc)))
theorem place_s (f : Fld) (c : Cel) (h : fldE f = 0) (hc : inF f c = true) : Spec Tryz.prog 74 [fldA f, celA c] [] (I .i64 (placeV f c)) [] := by
 obtain ⟨i1, i2, i3, i4, i5⟩ := place_ix h hc
 have j1 := inF_iff.1 hc
 obtain ⟨e1, e2, e3, e4⟩ := fldE_ok h
 refine spec_am Tryz.func74 rfl rfl mix 17 rfl [.tmp 4] Tryz.results74 (Nat.le_of_ble_eq_true rfl) ?_
 (iterate 2 ((try simp (etaStruct := .none) only [push_cast, DrawG, seval, getD_in _ _ _ (show (c.y * f.w + c.x).toNat < f.p.length by omega), i64P]); (try (refine xsu ?_; try exact xtI))))
 (first | (refine retA rfl (Wk.of ?_); (try simp (etaStruct := .none) only [push_cast, DrawG, seval]); first | done | (simp [placeV, *]; done) | (simp_all [placeV]; done)) | (refine retA rfl ?_; (try simp (etaStruct := .none) only [push_cast, DrawG, seval]); (try simp [placeV, *]); (try exact wkc)))
end Go.Proofs.YtllmjdcblfkfaaaGreat
namespace Go.Proofs.YtllmjdcblfkfaaaGreat
set_option linter.all false
open Go.RowKit
set_option maxRecDepth 100000
set_option maxHeartbeats 400000
def costV (q : Int) : Int × Int := if q = 0 ∨ q = 3 then (2, 0) else if q = 2 then (3, 0) else if q = 1 then (0, 9) else (0, 1)
theorem cost_s (q : Int) : Spec Tryz.prog 157 [I .i64 q] [] (.tup [I .i64 (costV q).1, I .i64 (costV q).2]) [] := by
 refine spec_am Tryz.func157 rfl rfl mix 12 rfl [.tmp 2, .tmp 3] Tryz.results157 (Nat.le_of_ble_eq_true rfl) ?_
 (try (refine xst ?_; try exact xtI))
 refine cond_i (fun h1 => ?_) (fun h1 => ?_)
 ·(try replace h1 := xhh h1)
  (try (refine xst ?_; try exact xtI))
  refine cond_i (fun h2 => ?_) (fun h2 => ?_)
  ·(try replace h2 := xhh h2)
   (try (refine xst ?_; try exact xtI))
   (first | (refine retA rfl (Wk.of ?_); (try simp (etaStruct := .none) only [push_cast, DrawG, seval]); first | done | (simp [costV, *]; done) | (simp_all [costV]; done)) | (refine retA rfl ?_; (try simp (etaStruct := .none) only [push_cast, DrawG, seval]); (try simp [costV, *]); (try exact wkc)))
  ·(try replace h2 := xhh h2)
   exact absurd h1 h2
 ·(try replace h1 := xhh h1)
  (try (refine xst ?_; try exact xtI))
  refine cond_i (fun h3 => ?_) (fun h3 => ?_)
  ·(try replace h3 := xhh h3)
   (try (refine xst ?_; try exact xtI))
   (first | (refine retA rfl (Wk.of ?_); (try simp (etaStruct := .none) only [push_cast, DrawG, seval]); first | done | (simp [costV, *]; done) | (simp_all [costV]; done)) | (refine retA rfl ?_; (try simp (etaStruct := .none) only [push_cast, DrawG, seval]); (try simp [costV, *]); (try exact wkc)))
  ·(try replace h3 := xhh h3)
   (try (refine xst ?_; try exact xtI))
   refine cond_i (fun h4 => ?_) (fun h4 => ?_)
   ·(try replace h4 := xhh h4)
    (try (refine xst ?_; try exact xtI))
    (first | (refine retA rfl (Wk.of ?_); (try simp (etaStruct := .none) only [push_cast, DrawG, seval]); first | done | (simp [costV, *]; done) | (simp_all [costV]; done)) | (refine retA rfl ?_; (try simp (etaStruct := .none) only [push_cast, DrawG, seval]); (try simp [costV, *]); (try exact wkc)))
   ·(try replace h4 := xhh h4)
    (try (refine xst ?_; try exact xtI))
    refine cond_i (fun h5 => ?_) (fun h5 => ?_)
    ·(try replace h5 := xhh h5)
     (try (refine xst ?_; try exact xtI))
     (first | (refine retA rfl (Wk.of ?_); (try simp (etaStruct := .none) only [push_cast, DrawG, seval]); first | done | (simp [costV, *]; done) | (simp_all [costV]; done)) | (refine retA rfl ?_; (try simp (etaStruct := .none) only [push_cast, DrawG, seval]); (try simp [costV, *]); (try exact wkc)))
    ·(try replace h5 := xhh h5)
     (try (refine xst ?_; try exact xtI))
     (first | (refine retA rfl (Wk.of ?_); (try simp (etaStruct := .none) only [push_cast, DrawG, seval]); first | done | (simp [costV, *]; done) | (simp_all [costV]; done)) | (refine retA rfl ?_; (try simp (etaStruct := .none) only [push_cast, DrawG, seval]); (try simp [costV, *]); (try exact wkc)))
theorem costOf_s (q : Int) (h : 0 ≤ q ∧ q < 4) : Spec Tryz.prog 114 [I .i64 q] [] (I .i64 (if q = 1 then -1 else kV q)) [] := by
 have hg : ([[pI 2], [pI (-1)], [pI 3], [pI 2]] : List (List PV)).getD q.toNat [] = [pI (if q = 1 then -1 else kV q)] := by
  have : q = 0 ∨ q = 1 ∨ q = 2 ∨ q = 3 := by omega
  rcases this with rfl | rfl | rfl | rfl <;> rfl
 refine spec_am Tryz.func114 rfl rfl mix 7 rfl [.tmp 2] Tryz.results114 (Nat.le_of_ble_eq_true rfl) ?_
 (iterate 2 ((try simp (etaStruct := .none) only [push_cast, DrawG, seval, hg]); (try (refine xsu ?_; try exact xtI))))
 exact xrz rfl
def idxN (f : Fld) (c : Cel) : Nat := (c.y * f.w + c.x).toNat
def srcE (f : Fld) : List Cel → Int
 | [] => 0
 | c :: r => if inF f c then (if placeV f c = 1 then 9 else srcE f r) else 7
def floodE (f : Fld) (l : List Cel) : Int := if fldE f ≠ 0 then fldE f else if 100 < l.length then 2 else srcE f l
def FloodIs (f : Fld) (l : List Cel) (R : List Int) : Prop := (floodE f l = 0 → ∀ far, Flood f.w.toNat f.p (l.map (idxN f)) far → R = far) ∧ (floodE f l ≠ 0 → R = []) ∧ R.length ≤ f.p.length
theorem flood_is (f : Fld) (l : List Cel) : ∃ R, FloodIs f l R := by
 by_cases h : floodE f l = 0 ∧ ∃ far, Flood f.w.toNat f.p (l.map (idxN f)) far
 ·obtain ⟨h1, far, hf⟩ := h
  exact ⟨far, fun _ g hg => hf.uniq hg, fun h => absurd h1 h, by rw [hf.len]; exact Nat.le_refl _⟩
 ·exact ⟨[], fun h0 far hf => absurd ⟨h0, far, hf⟩ h, fun _ => rfl, Nat.zero_le _⟩
theorem srcE_bad {f : Fld} : ∀ {l : List Cel} (k : Nat), k < l.length → (∀ j, j < k → inF f (l.getD j default) = true ∧ placeV f (l.getD j default) ≠ 1) → ¬ (inF f (l.getD k default) = true ∧ placeV f (l.getD k default) ≠ 1) → srcE f l = if inF f (l.getD k default) then 9 else 7
 | [], k, h, _, _ => by simp at h
 | c :: r, 0, h, _, hb => by
  simp only [List.getD_cons_zero] at hb ⊢
  unfold srcE
  by_cases h1 : inF f c = true
  ·rw [if_pos h1, if_pos h1, if_pos]; by_cases h2 : placeV f c = 1
   ·exact h2
   ·exact absurd ⟨h1, h2⟩ hb
  ·rw [if_neg h1, if_neg h1]
 | c :: r, k + 1, h, ha, hb => by
  simp only [List.getD_cons_succ] at hb ⊢
  have h0 := ha 0 (by omega)
  simp only [List.getD_cons_zero] at h0
  unfold srcE
  rw [if_pos h0.1, if_neg h0.2]
  exact srcE_bad k (by simpa using h) (fun j hj => by have := ha (j + 1) (by omega); simpa using this) hb
theorem srcE_ok {f : Fld} : ∀ {l : List Cel}, (∀ j, j < l.length → inF f (l.getD j default) = true ∧ placeV f (l.getD j default) ≠ 1) → srcE f l = 0
 | [], _ => rfl
 | c :: r, ha => by
  have h0 := ha 0 (by simp)
  simp only [List.getD_cons_zero] at h0
  unfold srcE
  rw [if_pos h0.1, if_neg h0.2]
  exact srcE_ok (fun j hj => by have := ha (j + 1) (by simpa using hj); simpa using this)
abbrev fldC (f : Fld) : List AV := [I .i64 f.w, I .i64 f.h, .c (.sl 1 (f.p.map i64P))]
theorem costV_ok {q : Int} (h : 0 ≤ q ∧ q < 4) : (q = 1 ∧ costV q = (0, 9)) ∨ (q ≠ 1 ∧ costV q = (kV q, 0)) := by
 have : q = 0 ∨ q = 1 ∨ q = 2 ∨ q = 3 := by omega
 rcases this with rfl | rfl | rfl | rfl
 ·exact .inr ⟨by decide, rfl⟩
 ·exact .inl ⟨rfl, rfl⟩
 ·exact .inr ⟨by decide, rfl⟩
 ·exact .inr ⟨by decide, rfl⟩
end Go.Proofs.YtllmjdcblfkfaaaGreat
namespace Go.Proofs.YtllmjdcblfkfaaaGreat
set_option linter.all false
open Go.RowKit
set_option maxRecDepth 100000
theorem in_s' (f : Fld) (c : Cel) (h : fldE f = 0) : Spec Tryz.prog 73 [fldA f, celA c] [] (B (inF f c)) [] := by
 have := fldE_ok h
 exact in_s f c (by omega) (by omega)
end Go.Proofs.YtllmjdcblfkfaaaGreat
namespace Go.Proofs.YtllmjdcblfkfaaaGreat
set_option linter.all false
open Go.RowKit
set_option maxRecDepth 100000
set_option maxHeartbeats 400000
def sidesC (c : Cel) : List Cel := [⟨c.x, c.y - 1⟩, ⟨c.x - 1, c.y⟩, ⟨c.x + 1, c.y⟩, ⟨c.x, c.y + 1⟩]
def besideC (f : Fld) (c : Cel) : List Cel := (sidesC c).filter (inF f)
theorem besideC_step (f : Fld) (c : Cel) (k : Nat) (h : k < (sidesC c).length) : ((sidesC c).take (k + 1)).filter (inF f) = ((sidesC c).take k).filter (inF f) ++ (if inF f ((sidesC c).getD k default) then [(sidesC c).getD k default] else []) := by
 rw [take_snoc _ _ h, List.filter_append, List.filter_cons, List.filter_nil]
theorem besides_s (f : Fld) (c : Cel) (h : fldE f = 0) (hx : -1000000 ≤ c.x ∧ c.x ≤ 1000000) (hy : -1000000 ≤ c.y ∧ c.y ≤ 1000000) : Spec Tryz.prog 111 [fldA f, celA c] [] (.c (.sl 2 ((besideC f c).map celP))) [] := by
 have h4 : (sidesC c).length = 4 := rfl
 refine spec_am Tryz.func111 rfl rfl mix 47 rfl [.tmp 4] Tryz.results111 (Nat.le_of_ble_eq_true rfl) ?_
 (try (refine xst ?_; try exact xtI))
 refine loopI (fun k : Nat => ⟨[(34, I .i64 k), (33, I .i64 4), (32, .own 1), (5, .own 2), (2, .ptr 0 0 0)], [(0, .blk 24 (fldC f)), (1, .row 68 2 ((sidesC c).map celP)), (2, .row 68 2 ((((sidesC c).take k).filter (inF f)).map celP))], 3⟩) (fun k : Nat => k ≤ 4) (fun k : Nat => 4 - k) (0) (Nat.zero_le _) ((To.nil 5 68 2 rfl).trans (To.mk [0, 2, 3] rfl rfl (by decide) ?_ ?_)) ?_
 ·simp (etaStruct := .none) only [push_cast, DrawG, seval, sidesC, celP, List.filter_nil, List.take_zero]
 ·simp (etaStruct := .none) only [push_cast, DrawG, seval]
 rintro k hk
 (try (refine xst ?_; try exact xtI))
 refine cond_i (fun h1 => ?_) (fun h1 => ?_)
 ·(try replace h1 := xhh h1)
  have hlt : k < (sidesC c).length := by omega
  have st := besideC_step f c k hlt
  have hfl : (((sidesC c).take k).filter (inF f)).length ≤ 4 := by have := List.length_filter_le (inF f) ((sidesC c).take k); rw [List.length_take] at this; omega
  (iterate 2 ((try simp (etaStruct := .none) only [push_cast, DrawG, seval, getD_in _ _ _ hlt, celP]); (try (refine xsu ?_; try exact xtI))))
  refine caP (in_s' f ((sidesC c).getD k default) h) ?_
  (iterate 2 ((try simp (etaStruct := .none) only [push_cast, DrawG, seval, getD_in _ _ _ hlt, celP]); (try (refine xsu ?_; try exact xtI))))
  refine cond_i (fun h2 => ?_) (fun h2 => ?_)
  ·(try replace h2 := xhh h2)
   rw [if_pos h2] at st
   (iterate 2 ((try simp (etaStruct := .none) only [push_cast, DrawG, seval, getD_in _ _ _ hlt, celP]); (try (refine xsu ?_; try exact xtI))))
   refine ⟨k + 1, by omega, by omega, To.mk [0, 1, 5] rfl rfl (by decide) ?_ ?_⟩
   ·(iterate 2 ((try simp (etaStruct := .none) only [push_cast, DrawG, seval, st, List.map_append, celP]); (try (refine xsu ?_; try exact xtI))))
   ·(iterate 2 ((try simp (etaStruct := .none) only [push_cast, DrawG, seval, getD_in _ _ _ hlt, celP]); (try (refine xsu ?_; try exact xtI))))
  ·(try replace h2 := xhh h2)
   rw [if_neg (by rw [h2]; decide), List.append_nil] at st
   (iterate 2 ((try simp (etaStruct := .none) only [push_cast, DrawG, seval, getD_in _ _ _ hlt, celP]); (try (refine xsu ?_; try exact xtI))))
   refine ⟨k + 1, by omega, by omega, To.mk [0, 1, 2] rfl rfl (by decide) ?_ ?_⟩
   ·(iterate 2 ((try simp (etaStruct := .none) only [push_cast, DrawG, seval, st]); (try (refine xsu ?_; try exact xtI))))
   ·(iterate 2 ((try simp (etaStruct := .none) only [push_cast, DrawG, seval, getD_in _ _ _ hlt, celP]); (try (refine xsu ?_; try exact xtI))))
 ·(try replace h1 := xhh h1)
  obtain rfl : k = 4 := by omega
  have ht : (sidesC c).take 4 = sidesC c := rfl
  (iterate 2 ((try simp (etaStruct := .none) only [push_cast, DrawG, seval, ht]); (try (refine xsu ?_; try exact xtI))))
  (first | (refine retA rfl (Wk.of ?_); (try simp (etaStruct := .none) only [push_cast, DrawG, seval]); first | done | (simp [besideC, *]; done) | (simp_all [besideC]; done)) | (refine retA rfl ?_; (try simp (etaStruct := .none) only [push_cast, DrawG, seval]); (try simp [besideC, *]); (try exact wkc)))
theorem besideC_ok (f : Fld) {W H i : Nat} (hw : f.w = (W : Int)) (hh : f.h = (H : Int)) (hW : 0 < W) (hi : i < W * H) : (besideC f ⟨((i % W : Nat) : Int), ((i / W : Nat) : Int)⟩).map (idxN f) = besideN W H i ∧ ∀ n ∈ besideC f ⟨((i % W : Nat) : Int), ((i / W : Nat) : Int)⟩, inF f n = true := by
 refine ⟨?_, fun n hn => (List.mem_filter.1 hn).2⟩
 have h1 := Nat.div_add_mod i W
 have h2 := Nat.mod_lt i hW
 have h3 : i / W < H := by rw [Nat.div_lt_iff_lt_mul hW, Nat.mul_comm]; exact hi
 unfold besideC besideN sidesC
 generalize i % W = x at *
 generalize i / W = y at *
 have a1 : inF f ⟨(x : Int), (y : Int) - 1⟩ = decide (0 < y) := by
  rw [Bool.eq_iff_iff, inF_iff, decide_eq_true_eq, hw, hh]; simp only; omega
 have a2 : inF f ⟨(x : Int) - 1, (y : Int)⟩ = decide (0 < x) := by
  rw [Bool.eq_iff_iff, inF_iff, decide_eq_true_eq, hw, hh]; simp only; omega
 have a3 : inF f ⟨(x : Int) + 1, (y : Int)⟩ = decide (x + 1 < W) := by
  rw [Bool.eq_iff_iff, inF_iff, decide_eq_true_eq, hw, hh]; simp only; omega
 have a4 : inF f ⟨(x : Int), (y : Int) + 1⟩ = decide (y + 1 < H) := by
  rw [Bool.eq_iff_iff, inF_iff, decide_eq_true_eq, hw, hh]; simp only; omega
 have hyW : (y : Int) * (W : Int) = ((W * y : Nat) : Int) := by rw [Nat.mul_comm, Int.natCast_mul]
 have b1 : 0 < y → idxN f ⟨(x : Int), (y : Int) - 1⟩ = i - W := fun h => by
  unfold idxN; simp only; rw [hw, Int.sub_mul, hyW, Int.one_mul]
  have : W * 1 ≤ W * y := Nat.mul_le_mul_left _ h
  omega
 have b2 : 0 < x → idxN f ⟨(x : Int) - 1, (y : Int)⟩ = i - 1 := fun h => by
  unfold idxN; simp only; rw [hw, hyW]; omega
 have b3 : idxN f ⟨(x : Int) + 1, (y : Int)⟩ = i + 1 := by
  unfold idxN; simp only; rw [hw, hyW]; omega
 have b4 : idxN f ⟨(x : Int), (y : Int) + 1⟩ = i + W := by
  unfold idxN; simp only; rw [hw, Int.add_mul, hyW, Int.one_mul]; omega
 simp only [List.filter_cons, List.filter_nil, a1, a2, a3, a4, decide_eq_true_eq]
 by_cases c1 : 0 < y <;> by_cases c2 : 0 < x <;> by_cases c3 : x + 1 < W <;> by_cases c4 : y + 1 < H <;> simp only [c1, c2, c3, c4, if_true, if_false, List.map_cons, List.map_nil, b3, b4, List.nil_append, List.cons_append, List.append_nil] <;> (first | rw [b1 c1, b2 c2] | rw [b1 c1] | rw [b2 c2] | rfl)
theorem floods_s (f : Fld) (l : List Cel) (R : List Int) (hR : FloodIs f l R) (hf : f.p.length ≤ 9223372036854775807) (hl : l.length ≤ 9223372036854775807) : Spec Tryz.prog 109 [fldA f, .c (.sl 2 (l.map celP))] [] (.tup [.c (.sl 1 (R.map i64P)), I .i64 (floodE f l)]) [] := by
 refine spec_am Tryz.func109 rfl rfl mix 134 rfl [.tmp 4, .tmp 5] Tryz.results109 (Nat.le_of_ble_eq_true rfl) ?_
 (try (refine xst ?_; try exact xtI))
 refine caP (fright_s f hf) ?_
 (try (refine xst ?_; try exact xtI))
 refine cond_i (fun h1 => ?_) (fun h1 => ?_)
 ·(try replace h1 := xhh h1)
  have e : floodE f l = fldE f := by unfold floodE; rw [if_pos h1]
  have e2 : R = [] := hR.2.1 (by rw [e]; exact h1)
  (try (refine xst ?_; try exact xtI))
  (first | (refine retA rfl (Wk.of ?_); (try simp (etaStruct := .none) only [push_cast, DrawG, seval]); first | done | (simp [e, e2, *]; done) | (simp_all [e, e2]; done)) | (refine retA rfl ?_; (try simp (etaStruct := .none) only [push_cast, DrawG, seval]); (try simp [e, e2, *]); (try exact wkc)))
 ·(try replace h1 := xhh h1)
  obtain ⟨⟨w1, w2⟩, ⟨w3, w4⟩, wl, wp⟩ := fldE_ok h1
  obtain ⟨W, hW⟩ : ∃ W : Nat, f.w = (W : Int) := Int.eq_ofNat_of_zero_le (by omega)
  obtain ⟨H, hH⟩ : ∃ H : Nat, f.h = (H : Int) := Int.eq_ofNat_of_zero_le (by omega)
  have hWH : f.p.length = W * H := by rw [hW, hH] at wl; exact_mod_cast wl
  have hm : W * H ≤ 40 * 40 := Nat.mul_le_mul (by omega) (by omega)
  (try (refine xst ?_; try exact xtI))
  refine cond_i (fun h2 => ?_) (fun h2 => ?_)
  ·(try replace h2 := xhh h2)
   have e : floodE f l = 2 := by unfold floodE; rw [if_neg (by simpa using h1), if_pos (by omega)]
   have e2 : R = [] := hR.2.1 (by rw [e]; decide)
   (try (refine xst ?_; try exact xtI))
   (first | (refine retA rfl (Wk.of ?_); (try simp (etaStruct := .none) only [push_cast, DrawG, seval]); first | done | (simp [e, e2, *]; done) | (simp_all [e, e2]; done)) | (refine retA rfl ?_; (try simp (etaStruct := .none) only [push_cast, DrawG, seval]); (try simp [e, e2, *]); (try exact wkc)))
  ·(try replace h2 := xhh h2)
   have eF : floodE f l = srcE f l := by unfold floodE; rw [if_neg (by simpa using h1), if_neg (by omega)]
   (try (refine xst ?_; try exact xtI))
   refine loopI (fun k : Nat => ⟨[(31, I .i64 k), (30, I .i64 f.p.length), (7, .own 1), (2, .ptr 0 0 0), (1, .c (.sl 2 (l.map celP)))], [(0, .blk 24 (fldC f)), (1, .row 3 1 ((partL (fun _ => (-1 : Int)) k (List.replicate f.p.length 0)).map i64P))], 2⟩) (fun k : Nat => k ≤ f.p.length) (fun k : Nat => f.p.length - k) (0) (Nat.zero_le _) (To.mk [0, 1] rfl rfl (by decide) ?_ ?_) ?_
   ·simp (etaStruct := .none) only [push_cast, DrawG, seval, partL_0, List.map_replicate, List.length_replicate, i64P]
   ·simp (etaStruct := .none) only [push_cast, DrawG, seval, List.length_replicate]
   rintro k hk
   have hpl := partL_len (fun _ => (-1 : Int)) k (List.replicate f.p.length 0)
   rw [List.length_replicate] at hpl
   (try (refine xst ?_; try exact xtI))
   refine cond_i (fun h3 => ?_) (fun h3 => ?_)
   ·(try replace h3 := xhh h3)
    have hlt : k < f.p.length := by omega
    have hs := partL_succ (fun _ => (-1 : Int)) k (List.replicate f.p.length 0) (by rw [List.length_replicate]; exact hlt)
    (try (refine xst ?_; try exact xtI))
    refine ⟨k + 1, by omega, by omega, To.mk [0, 1] rfl rfl (by decide) ?_ ?_⟩
    ·(iterate 2 ((try simp (etaStruct := .none) only [push_cast, DrawG, seval, hs, List.map_set, i64P]); (try (refine xsu ?_; try exact xtI))))
    ·(try (refine xst ?_; try exact xtI))
   ·(try replace h3 := xhh h3)
    obtain rfl : k = f.p.length := by omega
    have hall := partL_all (fun _ => (-1 : Int)) (List.replicate f.p.length 0)
    rw [List.length_replicate, List.map_replicate] at hall
    (try (refine xst ?_; try exact xtI))
    refine loopI (fun x : Nat × List Int => ⟨[(40, I .i64 x.1), (39, I .i64 l.length), (38, .c (.sl 2 (l.map celP))), (7, .own 1), (2, .ptr 0 0 0)], [(0, .blk 24 (fldC f)), (1, .row 3 1 (x.2.map i64P))], 2⟩) (fun x : Nat × List Int => x.1 ≤ l.length ∧ x.2.length = f.p.length ∧ (∀ p, p < f.p.length → (p ∈ (l.take x.1).map (idxN f) ∧ x.2.getD p default = 0) ∨ (p ∉ (l.take x.1).map (idxN f) ∧ x.2.getD p default = -1)) ∧ ∀ j, j < x.1 → inF f (l.getD j default) = true ∧ placeV f (l.getD j default) ≠ 1) (fun x : Nat × List Int => l.length - x.1) ((0, List.replicate f.p.length (-1))) (⟨Nat.zero_le _, by simp, fun p hp => .inr ⟨by simp, getD_rep _ _ hp⟩, fun j h => absurd h (Nat.not_lt_zero _)⟩) (To.mk [0, 1] rfl rfl (by decide) ?_ ?_) ?_
    ·simp (etaStruct := .none) only [push_cast, DrawG, seval, hall]
    ·simp (etaStruct := .none) only [push_cast, DrawG, seval]
    rintro ⟨k, far⟩ ⟨hk, hfl, hfar, hgood⟩
    simp only at hk hfl hfar hgood
    (try (refine xst ?_; try exact xtI))
    refine cond_i (fun h4 => ?_) (fun h4 => ?_)
    ·(try replace h4 := xhh h4)
     have hlt : k < l.length := by omega
     (iterate 2 ((try simp (etaStruct := .none) only [push_cast, DrawG, seval, getD_in _ _ _ hlt, celP]); (try (refine xsu ?_; try exact xtI))))
     refine caP (in_s' f (l.getD k default) h1) ?_
     (iterate 2 ((try simp (etaStruct := .none) only [push_cast, DrawG, seval, getD_in _ _ _ hlt, celP]); (try (refine xsu ?_; try exact xtI))))
     refine cond_i (fun h5 => ?_) (fun h5 => ?_)
     ·(try replace h5 := xhh h5)
      have e : floodE f l = 7 := by rw [eF, srcE_bad k hlt hgood (fun h => by rw [h5] at h; exact absurd h.1 (by decide)), if_neg (by rw [h5]; decide)]
      have e2 : R = [] := hR.2.1 (by rw [e]; decide)
      (iterate 2 ((try simp (etaStruct := .none) only [push_cast, DrawG, seval, getD_in _ _ _ hlt, celP]); (try (refine xsu ?_; try exact xtI))))
      (first | (refine retA rfl (Wk.of ?_); (try simp (etaStruct := .none) only [push_cast, DrawG, seval]); first | done | (simp [e, e2, *]; done) | (simp_all [e, e2]; done)) | (refine retA rfl ?_; (try simp (etaStruct := .none) only [push_cast, DrawG, seval]); (try simp [e, e2, *]); (try exact wkc)))
     ·(try replace h5 := xhh h5)
      obtain ⟨i1, i2, i3, i4, i5⟩ := place_ix h1 h5
      (iterate 2 ((try simp (etaStruct := .none) only [push_cast, DrawG, seval, getD_in _ _ _ hlt, celP]); (try (refine xsu ?_; try exact xtI))))
      refine caP (place_s f (l.getD k default) h1 h5) ?_
      (iterate 2 ((try simp (etaStruct := .none) only [push_cast, DrawG, seval, getD_in _ _ _ hlt, celP]); (try (refine xsu ?_; try exact xtI))))
      refine cond_i (fun h6 => ?_) (fun h6 => ?_)
      ·(try replace h6 := xhh h6)
       have e : floodE f l = 9 := by rw [eF, srcE_bad k hlt hgood (fun h => h.2 h6), if_pos h5]
       have e2 : R = [] := hR.2.1 (by rw [e]; decide)
       (iterate 2 ((try simp (etaStruct := .none) only [push_cast, DrawG, seval, getD_in _ _ _ hlt, celP]); (try (refine xsu ?_; try exact xtI))))
       (first | (refine retA rfl (Wk.of ?_); (try simp (etaStruct := .none) only [push_cast, DrawG, seval]); first | done | (simp [e, e2, *]; done) | (simp_all [e, e2]; done)) | (refine retA rfl ?_; (try simp (etaStruct := .none) only [push_cast, DrawG, seval]); (try simp [e, e2, *]); (try exact wkc)))
      ·(try replace h6 := xhh h6)
       obtain ⟨m, hm2⟩ : ∃ m, m = idxN f (l.getD k default) := ⟨_, rfl⟩
       have hmi : (l.getD k default).y * f.w + (l.getD k default).x = (m : Int) := by rw [hm2]; unfold idxN; omega
       have ew1 : IntKind.i64.wrap (IntKind.i64.wrap ((l.getD k default).y * f.w) + (l.getD k default).x) = (m : Int) := by rw [wrap_in ((l.getD k default).y * f.w) (by omega) (by omega), wrap_in _ (by omega) (by omega)]; exact hmi
       have hml : m < far.length := by omega
       (iterate 2 ((try simp (etaStruct := .none) only [push_cast, DrawG, seval, getD_in _ _ _ hlt, celP, ew1, getD_in _ _ _ hml, List.length_map]); (try (refine xsu ?_; try exact xtI))))
       refine ⟨(k + 1, far.set m 0), ⟨by simp only; omega, by simp only [List.length_set]; exact hfl, fun p hp => by
 simp only
 rw [take_snoc _ _ hlt, List.map_append, List.map_cons, List.map_nil, ← hm2, set_get _ _ hml, List.mem_append, List.mem_singleton]
 by_cases e : p = m
 ·rw [if_pos e]; exact .inl ⟨.inr e, rfl⟩
 ·rw [if_neg e]
  rcases hfar p hp with h | h
  ·exact .inl ⟨.inl h.1, h.2⟩
  ·exact .inr ⟨fun h' => by rcases h' with h' | h'; exact h.1 h'; exact e h', h.2⟩, fun j hj => by
 simp only at hj
 rcases Nat.lt_or_ge j k with h | h
 ·exact hgood j h
 ·rw [show j = k by omega]; exact ⟨h5, h6⟩⟩, by simp only; omega, To.mk [0, 1] rfl rfl (by decide) ?_ ?_⟩
       ·(iterate 2 ((try simp (etaStruct := .none) only [push_cast, DrawG, seval, List.map_set, i64P]); (try (refine xsu ?_; try exact xtI))))
       ·(iterate 2 ((try simp (etaStruct := .none) only [push_cast, DrawG, seval, getD_in _ _ _ hlt, celP, ew1, getD_in _ _ _ hml, List.length_map]); (try (refine xsu ?_; try exact xtI))))
    ·(try replace h4 := xhh h4)
     obtain rfl : k = l.length := by omega
     rw [List.take_length] at hfar
     have e : floodE f l = 0 := by rw [eF]; exact srcE_ok hgood
     have hst : Bf W f.p (l.map (idxN f)) far := by
      refine ⟨hfl, fun p hp => ?_, fun p hp => ?_, fun p hp h0 => ?_, fun p hp => ?_⟩
      ·rcases hfar p hp with h | h <;> rw [h.2] <;> omega
      ·obtain ⟨c, hc, rfl⟩ := List.mem_map.1 hp
       obtain ⟨j, hj, rfl⟩ := mem_getD.1 hc
       have := place_ix h1 (hgood j hj).1
       rcases hfar (idxN f (l.getD j default)) (by unfold idxN; omega) with h | h
       ·exact h.2
       ·exact absurd hp h.1
      ·rcases hfar p hp with h | h
       ·exact .inl h
       ·rw [h.2] at h0; omega
      ·rcases hfar p hp with h | h <;> rw [h.2] <;> omega
     (try (refine xst ?_; try exact xtI))
     refine loopI (fun x : List Int × Bool => ⟨[(11, B x.2), (7, .own 1), (2, .ptr 0 0 0)], [(0, .blk 24 (fldC f)), (1, .row 3 1 (x.1.map i64P))], 2⟩) (fun x : List Int × Bool => Bf W f.p (l.map (idxN f)) x.1 ∧ (x.2 = false → ∀ i n, i < f.p.length → n < f.p.length → Adj W i n → fine f.p x.1 i n)) (fun x : List Int × Bool => 2 * sumL big0 x.1 + (if x.2 then 1 else 0)) ((far, true)) (⟨hst, fun h => by simp at h⟩) (To.mk [0, 1] rfl rfl (by decide) ?_ ?_) ?_
     ·simp (etaStruct := .none) only [push_cast, DrawG, seval]
     ·simp (etaStruct := .none) only [push_cast, DrawG, seval]
     rintro ⟨far0, b0⟩ ⟨hB, hfine⟩
     simp only at hB hfine
     have hfl0 := hB.len
     (try (refine xst ?_; try exact xtI))
     refine cond_i (fun h7 => ?_) (fun h7 => ?_)
     ·(try replace h7 := xhh h7)
      (try (refine xst ?_; try exact xtI))
      refine loopI (fun x : Nat × List Int × Bool => ⟨[(66, I .i64 x.1), (65, I .i64 f.p.length), (11, B x.2.2), (7, .own 1), (2, .ptr 0 0 0)], [(0, .blk 24 (fldC f)), (1, .row 3 1 (x.2.1.map i64P))], 2⟩) (fun x : Nat × List Int × Bool => x.1 ≤ f.p.length ∧ Bf W f.p (l.map (idxN f)) x.2.1 ∧ ((x.2.2 = false ∧ x.2.1 = far0 ∧ ∀ i n, i < x.1 → n < f.p.length → Adj W i n → fine f.p x.2.1 i n) ∨ (x.2.2 = true ∧ sumL big0 x.2.1 < sumL big0 far0))) (fun x : Nat × List Int × Bool => f.p.length - x.1) ((0, far0, false)) (⟨Nat.zero_le _, hB, .inl ⟨rfl, rfl, fun i n h => absurd h (Nat.not_lt_zero _)⟩⟩) (To.mk [0, 1] rfl rfl (by decide) ?_ ?_) ?_
      ·simp (etaStruct := .none) only [push_cast, DrawG, seval]
      ·simp (etaStruct := .none) only [push_cast, DrawG, seval, hfl0]
      rintro ⟨i, far1, b1⟩ ⟨hi, hB1, hsw⟩
      simp only at hi hB1 hsw
      (try (refine xst ?_; try exact xtI))
      refine cond_i (fun h8 => ?_) (fun h8 => ?_)
      ·(try replace h8 := xhh h8)
       have hil : i < f.p.length := by omega
       have hpr := wp _ (getD_mem f.p i hil)
       obtain ⟨cst, hcst⟩ : ∃ cst : Int, cst = if f.p.getD i default = 1 then -1 else kV (f.p.getD i default) := ⟨_, rfl⟩
       have hkv := kV_b (f.p.getD i default)
       have hcb : (f.p.getD i default = 1 ∧ cst = -1) ∨ (f.p.getD i default ≠ 1 ∧ cst = kV (f.p.getD i default)) := by
        by_cases h : f.p.getD i default = 1
        ·exact .inl ⟨h, by rw [hcst, if_pos h]⟩
        ·exact .inr ⟨h, by rw [hcst, if_neg h]⟩
       obtain ⟨bm, bi⟩ := besideC_ok f hW hH (by omega) (show i < W * H by omega)
       have bl : (besideC f ⟨((i % W : Nat) : Int), ((i / W : Nat) : Int)⟩).length = (besideN W H i).length := by rw [← bm, List.length_map]
       have hx1 := Nat.mod_lt i (show 0 < W by omega)
       have hy1 : i / W ≤ i := Nat.div_le_self _ _
       have ex : (i : Int).tmod f.w = ((i % W : Nat) : Int) := by rw [hW, Int.tmod_eq_emod_of_nonneg (by omega)]; rfl
       have ey : IntKind.i64.wrap ((i : Int).tdiv f.w) = ((i / W : Nat) : Int) := by rw [hW, Int.tdiv_eq_ediv_of_nonneg (by omega)]; change IntKind.i64.wrap ((i / W : Nat) : Int) = _; exact wrap_in _ (by have := Int.natCast_nonneg (i / W); omega) (by omega)
       obtain ⟨cx, hcx⟩ : ∃ cx : Nat, cx = i % W := ⟨_, rfl⟩
       obtain ⟨cy, hcy⟩ : ∃ cy : Nat, cy = i / W := ⟨_, rfl⟩
       rw [← hcx] at ex hx1
       rw [← hcy] at ey hy1
       rw [← hcx, ← hcy] at bm bi bl
       have hbl := besideN_len W H i
       (iterate 2 ((try simp (etaStruct := .none) only [push_cast, DrawG, seval, ← hcst, ex, ey, getD_in _ _ _ hil, i64P]); (try (refine xsu ?_; try exact xtI))))
       refine caP (costOf_s (f.p.getD i default) hpr) ?_
       (iterate 2 ((try simp (etaStruct := .none) only [push_cast, DrawG, seval, ← hcst, ex, ey, getD_in _ _ _ hil, i64P]); (try (refine xsu ?_; try exact xtI))))
       refine caP (besides_s f ⟨(cx : Int), (cy : Int)⟩ h1 (by simp only; omega) (by simp only; omega)) ?_
       (iterate 2 ((try simp (etaStruct := .none) only [push_cast, DrawG, seval, ← hcst, ex, ey, getD_in _ _ _ hil, i64P]); (try (refine xsu ?_; try exact xtI))))
       (try (refine ⟨by kernel_rfl, ?_⟩))
       (iterate 2 ((try simp (etaStruct := .none) only [push_cast, DrawG, seval, ← hcst, ex, ey, getD_in _ _ _ hil, i64P]); (try (refine xsu ?_; try exact xtI))))
       refine loopI (fun x : Nat × List Int × Bool => ⟨[(87, I .i64 x.1), (86, I .i64 (besideC f ⟨(cx : Int), (cy : Int)⟩).length), (85, .c (.sl 2 ((besideC f ⟨(cx : Int), (cy : Int)⟩).map celP))), (66, I .i64 i), (65, I .i64 f.p.length), (13, I .i64 cst), (12, I .i64 i), (11, B x.2.2), (7, .own 1), (2, .ptr 0 0 0)], [(0, .blk 24 (fldC f)), (1, .row 3 1 (x.2.1.map i64P))], 2⟩) (fun x : Nat × List Int × Bool => x.1 ≤ (besideN W H i).length ∧ Bf W f.p (l.map (idxN f)) x.2.1 ∧ ((x.2.2 = false ∧ x.2.1 = far0 ∧ (∀ i' n, i' < i → n < f.p.length → Adj W i' n → fine f.p x.2.1 i' n) ∧ ∀ n ∈ (besideN W H i).take x.1, fine f.p x.2.1 i n) ∨ (x.2.2 = true ∧ sumL big0 x.2.1 < sumL big0 far0))) (fun x : Nat × List Int × Bool => (besideN W H i).length - x.1) ((0, far1, b1)) (⟨Nat.zero_le _, hB1, by
 rcases hsw with h | h
 ·exact .inl ⟨h.1, h.2.1, h.2.2, fun n hn => by simp at hn⟩
 ·exact .inr h⟩) (To.mk [0, 1] rfl rfl (by decide) ?_ ?_) ?_
       ·simp (etaStruct := .none) only [push_cast, DrawG, seval]
       ·simp (etaStruct := .none) only [push_cast, DrawG, seval]
       rintro ⟨k, far2, b2⟩ ⟨hk2, hB2, hsw2⟩
       simp only at hk2 hB2 hsw2
       have hfl2 := hB2.len
       (iterate 2 ((try simp (etaStruct := .none) only [push_cast, DrawG, seval, ← hcst, ex, ey, getD_in _ _ _ hil, i64P]); (try (refine xsu ?_; try exact xtI))))
       refine cond_i (fun h9 => ?_) (fun h9 => ?_)
       ·(try replace h9 := xhh h9)
        have hlt2 : k < (besideN W H i).length := by omega
        have hlt3 : k < (besideC f ⟨(cx : Int), (cy : Int)⟩).length := by omega
        obtain ⟨n, hn⟩ : ∃ n, n = (besideN W H i).getD k default := ⟨_, rfl⟩
        obtain ⟨c, hc⟩ : ∃ c, c = (besideC f ⟨(cx : Int), (cy : Int)⟩).getD k default := ⟨_, rfl⟩
        have hcn : idxN f c = n := by
         rw [hc, hn, ← bm, getD_at _ _ hlt3, getD_at _ _ (by rw [List.length_map]; exact hlt3), List.getElem_map]
        have hcin := bi c (by rw [hc]; exact getD_mem _ _ hlt3)
        obtain ⟨i1, i2, i3, i4, i5⟩ := place_ix h1 hcin
        have hnm := (mem_beside (W := W) (H := H) (p := i) (n := n) (by omega) (by omega)).1 (by rw [hn]; exact getD_mem _ _ hlt2)
        have hnp : n < f.p.length := by omega
        have hnf : n < far2.length := by omega
        have hif : i < far2.length := by omega
        have hmi : c.y * f.w + c.x = (n : Int) := by rw [← hcn]; unfold idxN; omega
        have ew1 : IntKind.i64.wrap (IntKind.i64.wrap (c.y * f.w) + c.x) = (n : Int) := by rw [wrap_in (c.y * f.w) (by omega) (by omega), wrap_in _ (by omega) (by omega)]; exact hmi
        have htop := hB2.top n hnp
        have hlow := hB2.low n hnp
        have hcl := sumL_le one0 1 one0_le far2
        have hne : i ≠ n := Adj.ne (by omega) hnm.2
        rw [hfl2] at hcl
        have ew2 : IntKind.i64.wrap (far2.getD n default + cst) = far2.getD n default + cst := wrap_in _ (by omega) (by omega)
        (iterate 2 ((try simp (etaStruct := .none) only [push_cast, DrawG, seval, ← hcst, ex, ey, getD_in _ _ _ hil, i64P, getD_in _ _ _ hlt3, ← hc, celP, ew1, ew2, getD_in _ _ _ hnf, getD_in _ _ _ hif, List.length_map]); (try (refine xsu ?_; try exact xtI))))
        refine cond_i (fun h10 => ?_) (fun h10 => ?_)
        ·(try replace h10 := xhh h10)
         have hnfine : ¬ fine f.p far2 i n := by
          unfold fine
          rintro (h | h | h)
          ·omega
          ·omega
          ·rcases hcb with g | g
           ·omega
           ·omega
         have hbt := hB2.better (by omega) hil hnp hnm.2 hne hnfine
         have hce : cst = kV (f.p.getD i default) := by rcases hcb with g | g; omega; exact g.2
         rw [← hce] at hbt
         (iterate 2 ((try simp (etaStruct := .none) only [push_cast, DrawG, seval, ← hcst, ex, ey, getD_in _ _ _ hil, i64P, getD_in _ _ _ hlt3, ← hc, celP, ew1, ew2, getD_in _ _ _ hnf, getD_in _ _ _ hif, List.length_map]); (try (refine xsu ?_; try exact xtI))))
         refine ⟨(k + 1, far2.set i (far2.getD n default + cst), true), ⟨by simp only; omega, hbt.1, .inr ⟨rfl, by
 simp only
 rcases hsw2 with h | h
 ·rw [← h.2.1]; exact hbt.2
 ·exact Nat.lt_trans hbt.2 h.2⟩⟩, by simp only; omega, To.mk [0, 1] rfl rfl (by decide) ?_ ?_⟩
         ·(iterate 2 ((try simp (etaStruct := .none) only [push_cast, DrawG, seval, List.map_set, i64P]); (try (refine xsu ?_; try exact xtI))))
         ·(iterate 2 ((try simp (etaStruct := .none) only [push_cast, DrawG, seval, ← hcst, ex, ey, getD_in _ _ _ hil, i64P, getD_in _ _ _ hlt3, ← hc, celP, ew1, ew2, getD_in _ _ _ hnf, getD_in _ _ _ hif, List.length_map]); (try (refine xsu ?_; try exact xtI))))
        ·(try replace h10 := xhh h10)
         have hfn : fine f.p far2 i n := by
          unfold fine
          rcases hcb with g | g
          ·exact .inl g.1
          ·by_cases h0 : far2.getD n default < 0
           ·exact .inr (.inl h0)
           ·refine .inr (.inr ?_)
            rcases h10 with h | h
            ·omega
            ·omega
         (iterate 2 ((try simp (etaStruct := .none) only [push_cast, DrawG, seval, ← hcst, ex, ey, getD_in _ _ _ hil, i64P, getD_in _ _ _ hlt3, ← hc, celP, ew1, ew2, getD_in _ _ _ hnf, getD_in _ _ _ hif, List.length_map]); (try (refine xsu ?_; try exact xtI))))
         refine ⟨(k + 1, far2, b2), ⟨by simp only; omega, hB2, by
 simp only
 rcases hsw2 with h | h
 ·refine .inl ⟨h.1, h.2.1, h.2.2.1, fun m hm => ?_⟩
  rw [take_snoc _ _ hlt2, ← hn, List.mem_append, List.mem_singleton] at hm
  rcases hm with hm | rfl
  ·exact h.2.2.2 m hm
  ·exact hfn
 ·exact .inr h⟩, by simp only; omega, To.mk [0, 1] rfl rfl (by decide) ?_ ?_⟩
         ·(iterate 2 ((try simp (etaStruct := .none) only [push_cast, DrawG, seval, ← hcst, ex, ey, getD_in _ _ _ hil, i64P, getD_in _ _ _ hlt3, ← hc, celP, ew1, ew2, getD_in _ _ _ hnf, getD_in _ _ _ hif, List.length_map]); (try (refine xsu ?_; try exact xtI))))
         ·(iterate 2 ((try simp (etaStruct := .none) only [push_cast, DrawG, seval, ← hcst, ex, ey, getD_in _ _ _ hil, i64P, getD_in _ _ _ hlt3, ← hc, celP, ew1, ew2, getD_in _ _ _ hnf, getD_in _ _ _ hif, List.length_map]); (try (refine xsu ?_; try exact xtI))))
       ·(try replace h9 := xhh h9)
        obtain rfl : k = (besideN W H i).length := by omega
        (iterate 2 ((try simp (etaStruct := .none) only [push_cast, DrawG, seval, ← hcst, ex, ey, getD_in _ _ _ hil, i64P]); (try (refine xsu ?_; try exact xtI))))
        refine ⟨(i + 1, far2, b2), ⟨by simp only; omega, hB2, by
 simp only
 rcases hsw2 with h | h
 ·refine .inl ⟨h.1, h.2.1, fun i' m h1' h2' h3' => ?_⟩
  rcases Nat.lt_or_ge i' i with g | g
  ·exact h.2.2.1 i' m g h2' h3'
  ·obtain rfl : i' = i := by omega
   refine h.2.2.2 m ?_
   rw [List.take_length]
   exact (mem_beside (by omega) (by omega)).2 ⟨by omega, h3'⟩
 ·exact .inr h⟩, by simp only; omega, To.mk [0, 1] rfl rfl (by decide) ?_ ?_⟩
        ·(iterate 2 ((try simp (etaStruct := .none) only [push_cast, DrawG, seval, ← hcst, ex, ey, getD_in _ _ _ hil, i64P]); (try (refine xsu ?_; try exact xtI))))
        ·(iterate 2 ((try simp (etaStruct := .none) only [push_cast, DrawG, seval, ← hcst, ex, ey, getD_in _ _ _ hil, i64P]); (try (refine xsu ?_; try exact xtI))))
      ·(try replace h8 := xhh h8)
       obtain rfl : i = f.p.length := by omega
       (try (refine xst ?_; try exact xtI))
       refine ⟨(far1, b1), ⟨hB1, fun hb => by
 rcases hsw with h | h
 ·exact fun i n q1 q2 q3 => h.2.2 i n q1 q2 q3
 ·simp only at hb; rw [h.1] at hb; simp at hb⟩, by
 simp only
 rcases hsw with h | h
 ·rw [h.1, h.2.1, h7]; simp
 ·rw [h.1, h7]; simp; omega, To.mk [0, 1] rfl rfl (by decide) ?_ ?_⟩
       ·(try (refine xst ?_; try exact xtI))
       ·(try (refine xst ?_; try exact xtI))
     ·(try replace h7 := xhh h7)
      have e2 : R = far0 := hR.1 e far0 (by rw [hW, Int.toNat_natCast]; exact hB.flood (hfine h7))
      (try (refine xst ?_; try exact xtI))
      (first | (refine retA rfl (Wk.of ?_); (try simp (etaStruct := .none) only [push_cast, DrawG, seval]); first | done | (simp [e, e2, *]; done) | (simp_all [e, e2]; done)) | (refine retA rfl ?_; (try simp (etaStruct := .none) only [push_cast, DrawG, seval]); (try simp [e, e2, *]); (try exact wkc)))
end Go.Proofs.YtllmjdcblfkfaaaGreat
namespace Go.Proofs.YtllmjdcblfkfaaaGreat
set_option linter.all false
open Go.RowKit
set_option maxRecDepth 100000
theorem cel_dec (a b : Cel) : (decide (a.x = b.x) && decide (a.y = b.y)) = decide (a = b) := by
 rw [Bool.eq_iff_iff]; cases a; cases b; simp
theorem u64_eq (l m : List Nat) (hl : l.length ≤ 9223372036854775807) (hm : m.length ≤ 9223372036854775807) : Spec Tryz.prog 10 [.c (.sl 1 (l.map u64P)), .c (.sl 1 (m.map u64P))] [] (B (decide (l = m))) [] := by
 refine spec_am Tryz.func10 rfl rfl mix 26 rfl [.tmp 4] Tryz.results10 (Nat.le_of_ble_eq_true rfl) ?_
 (try (refine xst ?_; try exact xtI))
 refine cond_i (fun h1 => ?_) (fun h1 => ?_)
 ·(try replace h1 := xhh h1)
  have e : l ≠ m := by intro e; subst e; simp at h1
  (try (refine xst ?_; try exact xtI))
  exact ret0 rfl trivial (Wk.of (by rw [decide_eq_false e]; rfl))
 ·(try replace h1 := xhh h1)
  (try (refine xst ?_; try exact xtI))
  refine loopI (fun k : Nat => ⟨[(13, I .i64 k), (12, I .i64 l.length), (1, .c (.sl 1 (m.map u64P))), (0, .c (.sl 1 (l.map u64P)))], [], 0⟩) (fun k : Nat => k ≤ l.length ∧ ∀ j, j < k → l.getD j default = m.getD j default) (fun k : Nat => l.length - k) (0) (⟨Nat.zero_le _, fun j h => by omega⟩) (To.mk [] rfl rfl List.nodup_nil trivial ?_) ?_
  ·simp (etaStruct := .none) only [push_cast, DrawG, seval]
  rintro k ⟨hk, hn⟩
  (try (refine xst ?_; try exact xtI))
  refine cond_i (fun h2 => ?_) (fun h2 => ?_)
  ·(try replace h2 := xhh h2)
   have hlt : k < l.length := by omega
   have hlt2 : k < m.length := by omega
   (iterate 2 ((try simp (etaStruct := .none) only [push_cast, DrawG, seval, getD_in _ _ _ hlt, getD_in _ _ _ hlt2, u64P, Int.ofNat_inj]); (try (refine xsu ?_; try exact xtI))))
   (try (refine ⟨by kernel_rfl, ?_⟩))
   (iterate 2 ((try simp (etaStruct := .none) only [push_cast, DrawG, seval, getD_in _ _ _ hlt, getD_in _ _ _ hlt2, u64P, Int.ofNat_inj]); (try (refine xsu ?_; try exact xtI))))
   refine cond_i (fun h3 => ?_) (fun h3 => ?_)
   ·(try replace h3 := xhh h3)
    have e : l ≠ m := by intro e; subst e; simp at h3
    (iterate 2 ((try simp (etaStruct := .none) only [push_cast, DrawG, seval, getD_in _ _ _ hlt, getD_in _ _ _ hlt2, u64P, Int.ofNat_inj]); (try (refine xsu ?_; try exact xtI))))
    exact ret0 rfl trivial (Wk.of (by rw [decide_eq_false e]; rfl))
   ·(try replace h3 := xhh h3)
    (iterate 2 ((try simp (etaStruct := .none) only [push_cast, DrawG, seval, getD_in _ _ _ hlt, getD_in _ _ _ hlt2, u64P, Int.ofNat_inj]); (try (refine xsu ?_; try exact xtI))))
    refine ⟨k + 1, ⟨by omega, fun j hj => by rcases Nat.lt_or_ge j k with h | h; exact hn j h; rw [show j = k by omega]; simpa using h3⟩, by omega, To.mk [] rfl rfl List.nodup_nil trivial ?_⟩
    ·(iterate 2 ((try simp (etaStruct := .none) only [push_cast, DrawG, seval, getD_in _ _ _ hlt, getD_in _ _ _ hlt2, u64P, Int.ofNat_inj]); (try (refine xsu ?_; try exact xtI))))
  ·(try replace h2 := xhh h2)
   have e : l = m := by
    refine List.ext_getElem (by omega) fun i i1 i2 => ?_
    have := hn i (by omega)
    rwa [getD_at _ _ i1, getD_at _ _ i2] at this
   (try (refine xst ?_; try exact xtI))
   exact ret0 rfl trivial (Wk.of (by rw [decide_eq_true e]; rfl))
end Go.Proofs.YtllmjdcblfkfaaaGreat
namespace Go.Proofs.YtllmjdcblfkfaaaGreat
set_option linter.all false
open Go.RowKit
set_option maxRecDepth 100000
set_option maxHeartbeats 1000000
def groundV (f : Fld) (c : Cel) : Bool := inF f c && !decide (placeV f c = 1)
theorem ground_s (f : Fld) (c : Cel) (h : fldE f = 0) : Spec Tryz.prog 42 [fldA f, celA c] [] (B (groundV f c)) [] := by
 have hk := fldE_ok h
 refine spec_am Tryz.func42 rfl rfl mix 14 rfl [.tmp 4] Tryz.results42 (Nat.le_of_ble_eq_true rfl) ?_
 (try (refine xst ?_; try exact xtI))
 refine caP (in_s f c (by omega) (by omega)) ?_
 (try (refine xst ?_; try exact xtI))
 refine gcP (fun hcc => place_s f c h hcc) ?_
 (try (refine xst ?_; try exact xtI))
 (first | (refine retA rfl (Wk.of ?_); (try simp (etaStruct := .none) only [push_cast, DrawG, seval]); first | done | (simp [groundV, *]; done) | (simp_all [groundV]; done)) | (refine retA rfl ?_; (try simp (etaStruct := .none) only [push_cast, DrawG, seval]); (try simp [groundV, *]); (try exact wkc)))
structure Knd where
 life : Int
 blow : Int
 load : Int
 price : Int
 deriving DecidableEq, Inhabited
def kindV (k : Int) : Knd := if k = 1 then ⟨10, 1, 1, 5⟩ else if k = 2 then ⟨20, 2, 4, 12⟩ else ⟨0, 0, 0, 0⟩
abbrev kndA (k : Knd) : AV := .agg [I .i64 k.life, I .i64 k.blow, I .i64 k.load, I .i64 k.price]
theorem kindOf_s (k : Int) (h : k = 1 ∨ k = 2) : Spec Tryz.prog 43 [I .i64 k] [] (kndA (kindV k)) [] := by
 rcases h with rfl | rfl
 ·have e : kindV 1 = ⟨10, 1, 1, 5⟩ := rfl
  rw [e]
  refine spec_am Tryz.func43 rfl rfl mix 10 rfl [.cell 2 85] Tryz.results43 (Nat.le_of_ble_eq_true rfl) ?_
  (try (refine xst ?_; try exact xtI))
  exact xrz rfl
 ·have e : kindV 2 = ⟨20, 2, 4, 12⟩ := rfl
  rw [e]
  refine spec_am Tryz.func43 rfl rfl mix 10 rfl [.cell 2 85] Tryz.results43 (Nat.le_of_ble_eq_true rfl) ?_
  (try (refine xst ?_; try exact xtI))
  exact xrz rfl
def allN (p : Nat → Bool) : Nat → Bool
 | 0 => true
 | k + 1 => allN p k && p k
theorem allN_iff (p : Nat → Bool) : ∀ n, allN p n = true ↔ ∀ i, i < n → p i = true
 | 0 => by simp [allN]
 | n + 1 => by
  rw [allN, Bool.and_eq_true, allN_iff p n]
  constructor
  ·rintro ⟨a, b⟩ i hi
   rcases Nat.lt_or_ge i n with h | h
   ·exact a i h
   ·obtain rfl : i = n := by omega
    exact b
  ·intro h
   exact ⟨fun i hi => h i (by omega), h n (by omega)⟩
def baseB (w : Wld) (i : Nat) : Bool := groundV w.f (w.bases.getD i default) && within (w.stocks.getD i default) 0 1000000 && allN (fun j => !decide (w.bases.getD j default = w.bases.getD i default)) i
def mineB (w : Wld) (i : Nat) : Bool := within (w.mines.getD i default) 0 1000000 && (decide (w.mines.getD i default = 0) || decide (w.f.p.getD i default = 3))
def trp1 (w : Wld) (t : Trp) : Bool := within t.id 1 (w.next - 1) && within t.owner 0 ((w.bases.length : Int) - 1) && groundV w.f t.c && within t.life 1 (kindV t.kind).life && within t.load 0 (5 * (2 - t.kind))
def trp2 (w : Wld) (i : Nat) : Bool := allN (fun j => decide ((w.troops.getD j default).id < (w.troops.getD i default).id) && !decide ((w.troops.getD j default).c = (w.troops.getD i default).c)) i
def troopB (w : Wld) (i : Nat) : Bool := within (w.troops.getD i default).kind 1 2 && (trp1 w (w.troops.getD i default) && trp2 w i)
def worldB (w : Wld) : Bool := allN (baseB w) w.bases.length && allN (mineB w) w.mines.length && allN (troopB w) w.troops.length
def worldF (w : Wld) : Bool := decide (w.stocks.length = w.bases.length) && decide (w.mines.length = w.f.p.length) && within w.next 1 1000000 && within w.now 0 1000000
def worldE (w : Wld) : Int := if fldE w.f ≠ 0 then fldE w.f else if 8 < w.bases.length ∨ 100 < w.troops.length then 2 else if worldF w && worldB w then 0 else 4
end Go.Proofs.YtllmjdcblfkfaaaGreat
namespace Go.Proofs.YtllmjdcblfkfaaaGreat
set_option linter.all false
open Go.RowKit
def nearB (c : Cel) : Bool := decide (-1000 ≤ c.x ∧ c.x ≤ 1000 ∧ -1000 ≤ c.y ∧ c.y ≤ 1000)
def lq (n m k : Nat) : Nat := (2 * k * m + n) / (2 * n)
def lr (n m k : Nat) : Nat := (2 * k * m + n) % (2 * n)
theorem lq_step (n m k : Nat) (hn : 0 < n) (hm : m ≤ n) : (2 * n ≤ lr n m k + 2 * m → lq n m (k + 1) = lq n m k + 1 ∧ lr n m (k + 1) = lr n m k + 2 * m - 2 * n) ∧ (lr n m k + 2 * m < 2 * n → lq n m (k + 1) = lq n m k ∧ lr n m (k + 1) = lr n m k + 2 * m) := by
 have e : 2 * (k + 1) * m + n = (2 * k * m + n) + 2 * m := by rw [Nat.mul_add, Nat.add_mul]; omega
 have hd := Nat.div_add_mod (2 * k * m + n) (2 * n)
 have hlt : (2 * k * m + n) % (2 * n) < 2 * n := Nat.mod_lt _ (by omega)
 unfold lq lr
 rw [e]
 constructor
 ·intro h
  have e2 : 2 * k * m + n + 2 * m = ((2 * k * m + n) % (2 * n) + 2 * m - 2 * n) + 2 * n * ((2 * k * m + n) / (2 * n) + 1) := by rw [Nat.mul_add]; omega
  rw [e2, Nat.add_mul_div_left _ _ (by omega), Nat.add_mul_mod_self_left, Nat.div_eq_of_lt (by omega), Nat.mod_eq_of_lt (by omega)]
  omega
 ·intro h
  have e2 : 2 * k * m + n + 2 * m = ((2 * k * m + n) % (2 * n) + 2 * m) + 2 * n * ((2 * k * m + n) / (2 * n)) := by omega
  rw [e2, Nat.add_mul_div_left _ _ (by omega), Nat.add_mul_mod_self_left, Nat.div_eq_of_lt (by omega), Nat.mod_eq_of_lt (by omega)]
  omega
theorem lq_zero (n m : Nat) : lq n m 0 = 0 := by
 unfold lq
 rcases Nat.eq_zero_or_pos n with rfl | h
 ·simp
 ·rw [Nat.mul_zero, Nat.zero_mul, Nat.zero_add]; exact Nat.div_eq_of_lt (by omega)
theorem lr_zero (n m : Nat) : lr n m 0 = n := by
 unfold lr
 rcases Nat.eq_zero_or_pos n with rfl | h
 ·simp
 ·rw [Nat.mul_zero, Nat.zero_mul, Nat.zero_add]; exact Nat.mod_eq_of_lt (by omega)
theorem lr_lt (n m k : Nat) (h : 0 < n) : lr n m k < 2 * n := Nat.mod_lt _ (by omega)
theorem lq_le (n m k : Nat) (hn : 0 < n) (hk : k ≤ n) : lq n m k ≤ m := by
 unfold lq
 have : 2 * k * m ≤ 2 * n * m := Nat.mul_le_mul_right _ (by omega)
 have : (2 * k * m + n) / (2 * n) < m + 1 := (Nat.div_lt_iff_lt_mul (by omega)).2 (by rw [Nat.add_mul, Nat.mul_comm m]; omega)
 omega
def lpt (a : Cel) (sx sy : Int) (X Y k : Nat) : Cel := if Y ≤ X then ⟨a.x + sx * k, a.y + sy * lq X Y k⟩ else ⟨a.x + sx * lq Y X k, a.y + sy * k⟩
def lpts (a : Cel) (sx sy : Int) (X Y n : Nat) : List Cel := (List.range (n + 1)).map (lpt a sx sy X Y)
theorem nearB_true {c : Cel} (h : nearB c = true) : -1000 ≤ c.x ∧ c.x ≤ 1000 ∧ -1000 ≤ c.y ∧ c.y ≤ 1000 := by simpa [nearB] using h
theorem lpts_snoc (a : Cel) (sx sy : Int) (X Y n : Nat) : lpts a sx sy X Y (n + 1) = lpts a sx sy X Y n ++ [lpt a sx sy X Y (n + 1)] := by simp [lpts, List.range_succ]
theorem lpts_len (a : Cel) (sx sy : Int) (X Y n : Nat) : (lpts a sx sy X Y n).length = n + 1 := by simp [lpts]
theorem lpt_zero (a : Cel) (sx sy : Int) (X Y : Nat) : lpt a sx sy X Y 0 = a := by simp [lpt, lq_zero]
theorem lpt_near (a : Cel) (sx sy : Int) (X Y k : Nat) (h1 : sx = -1 ∨ sx = 0 ∨ sx = 1) (h2 : sy = -1 ∨ sy = 0 ∨ sy = 1) (hX : X ≤ 2000) (hY : Y ≤ 2000) (hk : k ≤ max X Y) (ha : nearB a = true) :
 -3000 ≤ (lpt a sx sy X Y k).x ∧ (lpt a sx sy X Y k).x ≤ 3000 ∧ -3000 ≤ (lpt a sx sy X Y k).y ∧ (lpt a sx sy X Y k).y ≤ 3000 := by
 have hn := nearB_true ha
 have key : ∀ (s : Int) (q : Nat), (s = -1 ∨ s = 0 ∨ s = 1) → q ≤ 2000 → -2000 ≤ s * q ∧ s * q ≤ 2000 := by
  intro s q hs hq
  rcases hs with rfl | rfl | rfl <;> omega
 unfold lpt
 split
 ·have hq : lq X Y k ≤ 2000 := by
   rcases Nat.eq_zero_or_pos X with rfl | h
   ·obtain rfl : k = 0 := by omega
    rw [lq_zero]; omega
   ·have := lq_le X Y k h (by omega); omega
  have a1 := key sx k h1 (by omega)
  have a2 := key sy _ h2 hq
  simp only; omega
 ·have hq : lq Y X k ≤ 2000 := by have := lq_le Y X k (by omega) (by omega); omega
  have a1 := key sx _ h1 hq
  have a2 := key sy k h2 (by omega)
  simp only; omega
theorem lpt_stepX (a : Cel) (sx sy : Int) (X Y k : Nat) (h : Y ≤ X) (h0 : 0 < X) : lpt a sx sy X Y (k + 1) = ⟨(lpt a sx sy X Y k).x + sx, if 2 * X ≤ lr X Y k + 2 * Y then (lpt a sx sy X Y k).y + sy else (lpt a sx sy X Y k).y⟩ := by
 simp only [lpt, if_pos h]
 have hs := lq_step X Y k h0 h
 have e1 : a.x + sx * ((k + 1 : Nat) : Int) = a.x + sx * k + sx := by rw [Int.natCast_add, Int.mul_add]; omega
 rw [e1]
 by_cases hc : 2 * X ≤ lr X Y k + 2 * Y
 ·rw [if_pos hc, (hs.1 hc).1, Int.natCast_add, Int.mul_add]; congr 1; omega
 ·rw [if_neg hc, (hs.2 (by omega)).1]
theorem lpt_stepY (a : Cel) (sx sy : Int) (X Y k : Nat) (h : X < Y) : lpt a sx sy X Y (k + 1) = ⟨if 2 * Y ≤ lr Y X k + 2 * X then (lpt a sx sy X Y k).x + sx else (lpt a sx sy X Y k).x, (lpt a sx sy X Y k).y + sy⟩ := by
 simp only [lpt, if_neg (show ¬ Y ≤ X by omega)]
 have hs := lq_step Y X k (by omega) (by omega)
 have e1 : a.y + sy * ((k + 1 : Nat) : Int) = a.y + sy * k + sy := by rw [Int.natCast_add, Int.mul_add]; omega
 rw [e1]
 by_cases hc : 2 * Y ≤ lr Y X k + 2 * X
 ·rw [if_pos hc, (hs.1 hc).1, Int.natCast_add, Int.mul_add]; congr 1; omega
 ·rw [if_neg hc, (hs.2 (by omega)).1]
theorem mul_bound (n : Nat) (y : Int) (N Y : Nat) (hn : n ≤ N) (hy : -(Y : Int) ≤ y ∧ y ≤ Y) : -((N * Y : Nat) : Int) ≤ (n : Int) * y ∧ (n : Int) * y ≤ ((N * Y : Nat) : Int) := by
 have h1 : (n : Int) * y ≤ (n : Int) * Y := Int.mul_le_mul_of_nonneg_left hy.2 (by omega)
 have h2 : (n : Int) * (-(Y : Int)) ≤ (n : Int) * y := Int.mul_le_mul_of_nonneg_left hy.1 (by omega)
 have h3 : (n : Int) * Y ≤ ((N * Y : Nat) : Int) := by rw [Int.natCast_mul]; exact Int.mul_le_mul_of_nonneg_right (by omega) (by omega)
 rw [Int.mul_neg] at h2
 omega
def Beats (n T t z1 z2 : Int) : Prop := (n * z1 - T).natAbs < (n * z2 - T).natAbs ∨ ((n * z1 - T).natAbs = (n * z2 - T).natAbs ∧ (z1 - t).natAbs < (z2 - t).natAbs)
theorem best_beats (n m k : Nat) (f t s : Int) (hn : 0 < n) (_ : m ≤ n) (hk : k ≤ n) (hs : s = 1 ∨ s = -1) (ht : t = f + s * m) (z : Int) (_ : min f t ≤ z ∧ z ≤ max f t) (hne : z ≠ f + s * lq n m k) :
 Beats n (n * f + k * (t - f)) t (f + s * lq n m k) z := by
 have hq := lq_le n m k hn hk
 have hd := Nat.div_add_mod (2 * k * m + n) (2 * n)
 have hlt : (2 * k * m + n) % (2 * n) < 2 * n := Nat.mod_lt _ (by omega)
 have hq2 : lq n m k = (2 * k * m + n) / (2 * n) := rfl
 rw [← hq2] at hd
 generalize (2 * k * m + n) % (2 * n) = r at hd hlt
 generalize lq n m k = q at *
 have hd2 : 2 * ((n : Int) * q) + r = 2 * ((k : Int) * m) + n := by
  have : ((2 * n * q + r : Nat) : Int) = ((2 * k * m + n : Nat) : Int) := by rw [hd]
  simp only [Int.natCast_add, Int.natCast_mul] at this
  rw [Int.mul_assoc, Int.mul_assoc] at this
  exact this
 obtain ⟨e, he⟩ : ∃ e : Int, z = f + s * q + e := ⟨z - (f + s * q), by omega⟩
 have he0 : e ≠ 0 := by intro h; apply hne; rw [he, h]; omega
 have hE : (1 ≤ e → (n : Int) ≤ n * e) ∧ (e ≤ -1 → (n : Int) * e ≤ -n) := by
  constructor
  ·intro h
   have := Int.mul_le_mul_of_nonneg_left (c := (n : Int)) h (by omega)
   omega
  ·intro h
   have := Int.mul_le_mul_of_nonneg_left (c := (n : Int)) h (by omega)
   rw [Int.mul_neg] at this
   omega
 have e1 : (n : Int) * z = n * f + n * (s * q) + n * e := by rw [he, Int.mul_add, Int.mul_add]
 have e2 : (n : Int) * (f + s * q) = n * f + n * (s * q) := by rw [Int.mul_add]
 unfold Beats
 rw [e1, e2]
 rcases hs with rfl | rfl
 ·simp only [Int.one_mul] at *
  have e3 : (k : Int) * (t - f) = k * m := by rw [ht]; congr 1; omega
  rw [e3]
  generalize (n : Int) * q = A at *
  generalize (k : Int) * m = B at *
  generalize (n : Int) * e = E at *
  generalize (n : Int) * f = F at *
  omega
 ·have e4 : (n : Int) * (-1 * (q : Int)) = -(n * q) := by rw [Int.neg_one_mul, Int.mul_neg]
  have e3 : (k : Int) * (t - f) = -(k * m) := by rw [ht, ← Int.mul_neg]; congr 1; omega
  rw [e3, e4]
  generalize (n : Int) * q = A at *
  generalize (k : Int) * m = B at *
  generalize (n : Int) * e = E at *
  generalize (n : Int) * f = F at *
  omega
theorem aside_step (n T t Q f b y : Int) (A B C D : Nat) (hA : A = (n * y - T).natAbs) (hB : B = (n * b - T).natAbs) (hC : C = (y - t).natAbs) (hD : D = (b - t).natAbs) (HI : Q < y ∨ Q = f → b = Q) (HBy : y ≠ Q → Beats n T t Q y) (HBb : b ≠ Q → Beats n T t Q b) :
 ((A < B ∨ (A = B ∧ C < D)) → (Q < y + 1 ∨ Q = f → y = Q)) ∧ (¬ (A < B ∨ (A = B ∧ C < D)) → (Q < y + 1 ∨ Q = f → b = Q)) := by
 constructor
 ·intro h1 h2
  refine Classical.byContradiction fun hne => ?_
  obtain rfl : b = Q := HI (by omega)
  have := HBy hne
  unfold Beats at this
  omega
 ·intro h1 h2
  by_cases hq : Q < y ∨ Q = f
  ·exact HI hq
  ·refine Classical.byContradiction fun hne => ?_
   obtain rfl : Q = y := by omega
   have := HBb hne
   unfold Beats at this
   omega
theorem tdiv_step (k X : Nat) (d s : Int) (hs : d.sign = s) (hn : d.natAbs = X) (hX : X ≠ 0) : ((k : Int) * d).tdiv X = s * k := by
 have e : d = s * X := by rw [← hs, ← hn]; exact (Int.sign_mul_natAbs d).symm
 rw [e, ← Int.mul_assoc, Int.mul_tdiv_cancel _ (by omega), Int.mul_comm]
theorem aside_sign (n m k : Nat) (f t s : Int) (hs : (t - f).sign = s) (hm : (t - f).natAbs = m) : ∃ s', (s' = 1 ∨ s' = -1) ∧ t = f + s' * m ∧ s' * lq n m k = s * lq n m k := by
 rcases Int.lt_trichotomy (t - f) 0 with h | h | h
 ·rw [Int.sign_eq_neg_one_of_neg h] at hs; subst hs; exact ⟨-1, .inr rfl, by omega, rfl⟩
 ·have h0 : m = 0 := by omega
  subst h0
  have hq : lq n 0 k = 0 := by
   unfold lq
   rcases Nat.eq_zero_or_pos n with rfl | hn
   ·simp
   ·rw [Nat.mul_zero, Nat.zero_add]; exact Nat.div_eq_of_lt (by omega)
  exact ⟨1, .inl rfl, by omega, by rw [hq]; simp⟩
 ·rw [Int.sign_eq_one_of_pos h] at hs; subst hs; exact ⟨1, .inl rfl, by omega, rfl⟩
end Go.Proofs.YtllmjdcblfkfaaaGreat
namespace Go.Proofs.YtllmjdcblfkfaaaGreat
set_option linter.all false
open Go.RowKit
set_option maxRecDepth 100000
set_option maxHeartbeats 2000000
theorem near_s (c : Cel) (hx : In64 c.x) (hy : In64 c.y) : Spec Tryz.prog 139 [celA c] [] (B (nearB c)) [] := by
 refine spec_am Tryz.func139 rfl rfl mix 23 rfl [.tmp 2] Tryz.results139 (Nat.le_of_ble_eq_true rfl) ?_
 (try (refine xst ?_; try exact xtI))
 refine ret0 rfl trivial (Wk.of ?_)
 simp (etaStruct := .none) only [push_cast, DrawG, seval]
 simp only [I, B, AV.c.injEq, PV.v.injEq, Value.bool.injEq, nearB, IntKind.wrap_i64]
 rw [Bool.eq_iff_iff]
 simp only [Bool.and_eq_true, decide_eq_true_eq]
 repeat' split
 all_goals omega
theorem sign_s (n : Int) (hn : In64 n) (h : n ≠ -9223372036854775808) : Spec Tryz.prog 140 [I .i64 n] [] (.tup [I .i64 n.sign, I .i64 n.natAbs]) [] := by
 refine spec_am Tryz.func140 rfl rfl mix 13 rfl [.tmp 2, .tmp 3] Tryz.results140 (Nat.le_of_ble_eq_true rfl) ?_
 (try (refine xst ?_; try exact xtI))
 refine cond_i (fun h1 => ?_) (fun h1 => ?_)
 ·(try replace h1 := xhh h1)
  have e1 : n.sign = -1 := Int.sign_eq_neg_one_of_neg h1
  have e2 : (n.natAbs : Int) = -n := by omega
  (iterate 2 ((try simp (etaStruct := .none) only [push_cast, DrawG, seval, e1, e2]); (try (refine xsu ?_; try exact xtI))))
  exact xrz rfl
 ·(try replace h1 := xhh h1)
  (try (refine xst ?_; try exact xtI))
  refine cond_i (fun h2 => ?_) (fun h2 => ?_)
  ·(try replace h2 := xhh h2)
   have e1 : n.sign = 1 := Int.sign_eq_one_of_pos h2
   have e2 : (n.natAbs : Int) = n := by omega
   (try (refine xst ?_; try exact xtI))
   exact xrz rfl
  ·(try replace h2 := xhh h2)
   obtain rfl : n = 0 := by omega
   (try (refine xst ?_; try exact xtI))
   exact xrz rfl
theorem cellNear_s (c : Cel) : Spec Tryz.prog 83 [celA c] [] (B (nearB c)) [] := by
 refine spec_am Tryz.func83 rfl rfl mix 11 rfl [.tmp 2] Tryz.results83 (Nat.le_of_ble_eq_true rfl) ?_
 (try (refine xst ?_; try exact xtI))
 refine caP (between_s c.x (-1000) 1000) ?_
 (try (refine xst ?_; try exact xtI))
 refine gcP (fun hcc => between_s c.y (-1000) 1000) ?_
 (try (refine xst ?_; try exact xtI))
 exact ret0 rfl trivial (Wk.of (congrArg B (by unfold nearB within; rw [Bool.eq_iff_iff]; simp; omega)))
theorem far_s (a b : Int) (ha : -4000000000000000000 ≤ a ∧ a ≤ 4000000000000000000) (hb : -4000000000000000000 ≤ b ∧ b ≤ 4000000000000000000) : Spec Tryz.prog 137 [I .i64 a, I .i64 b] [] (I .i64 (a - b).natAbs) [] := by
 refine spec_am Tryz.func137 rfl rfl mix 12 rfl [.tmp 4] Tryz.results137 (Nat.le_of_ble_eq_true rfl) ?_
 (try (refine xst ?_; try exact xtI))
 refine ret0 rfl trivial (Wk.of ?_)
 simp (etaStruct := .none) only [push_cast, DrawG, seval]
 simp only [I, AV.c.injEq, PV.v.injEq, Value.int.injEq, true_and]
 split <;> omega
theorem sg (d : Int) : d.sign = -1 ∨ d.sign = 0 ∨ d.sign = 1 := by
 rcases Int.lt_trichotomy d 0 with h | h | h
 ·rw [Int.sign_eq_neg_one_of_neg h]; omega
 ·rw [h]; simp
 ·rw [Int.sign_eq_one_of_pos h]; omega
def lineV (a b : Cel) : List Cel := lpts a (b.x - a.x).sign (b.y - a.y).sign (b.x - a.x).natAbs (b.y - a.y).natAbs (max (b.x - a.x).natAbs (b.y - a.y).natAbs)
theorem aside_s (n m k : Nat) (f t s : Int) (hn : 0 < n) (hm : m ≤ n) (hk : k ≤ n) (hn2 : n ≤ 120) (hs : s = 1 ∨ s = -1) (ht : t = f + s * m) (hf : -1000 ≤ f ∧ f ≤ 1000) (htn : -1000 ≤ t ∧ t ≤ 1000) :
 Spec Tryz.prog 165 [I .i64 k, I .i64 n, I .i64 f, I .i64 t] [] (I .i64 (f + s * lq n m k)) [] := by
 have HB := fun z hz hne => best_beats n m k f t s hn hm hk hs ht z hz hne
 obtain ⟨Q, hQ⟩ : ∃ Q, Q = f + s * lq n m k := ⟨_, rfl⟩
 obtain ⟨T, hT⟩ : ∃ T : Int, T = n * f + k * (t - f) := ⟨_, rfl⟩
 rw [← hQ, ← hT] at HB
 rw [← hQ]
 have HQ : min f t ≤ Q ∧ Q ≤ max f t := by
  have hq := lq_le n m k hn hk
  rw [hQ, ht]
  generalize lq n m k = q at *
  rcases hs with rfl | rfl <;> omega
 have hb1 := mul_bound n f 120 1000 hn2 (by omega)
 have hb2 := mul_bound k (t - f) 120 2000 (by omega) (by omega)
 clear hs ht hQ
 have E1 : (if f > t then t else f) = min f t := by simp only [Int.min_def]; split <;> split <;> omega
 have E2 : (if t > f then t else f) = max f t := by simp only [Int.max_def]; split <;> split <;> omega
 have E3 : (if t < f then t else f) = min f t := by simp only [Int.min_def]; split <;> split <;> omega
 refine spec_am Tryz.func165 rfl rfl mix 69 rfl [.tmp 8] Tryz.results165 (Nat.le_of_ble_eq_true rfl) ?_
 (iterate 2 ((try simp (etaStruct := .none) only [push_cast, DrawG, seval, E1, E2, E3]); (try (refine xsu ?_; try exact xtI))))
 refine loopI (fun p : Int × Int => ⟨[(10, I .i64 p.1), (9, I .i64 p.2), (3, I .i64 t), (2, I .i64 f), (1, I .i64 n), (0, I .i64 k)], [], 0⟩) (fun p : Int × Int => (min f t ≤ p.1 ∧ p.1 ≤ max f t + 1) ∧ (min f t ≤ p.2 ∧ p.2 ≤ max f t) ∧ (Q < p.1 ∨ Q = f → p.2 = Q)) (fun p : Int × Int => (max f t + 1 - p.1).toNat) ((min f t, f)) (⟨⟨by simp only; omega, by simp only; omega⟩, ⟨by simp only; omega, by simp only; omega⟩, fun h => by simp only at h ⊢; omega⟩) (To.mk [] rfl rfl List.nodup_nil trivial ?_) ?_
 ·simp (etaStruct := .none) only [push_cast, DrawG, seval]
 rintro ⟨y, b⟩ ⟨hy, hb, HI⟩
 simp only at hy hb HI
 (iterate 2 ((try simp (etaStruct := .none) only [push_cast, DrawG, seval, E1, E2, E3]); (try (refine xsu ?_; try exact xtI))))
 refine cond_i (fun h1 => ?_) (fun h1 => ?_)
 ·(try replace h1 := xhh h1)
  have hb3 := mul_bound n y 120 1000 hn2 (by omega)
  have hb4 := mul_bound n b 120 1000 hn2 (by omega)
  (iterate 2 ((try simp (etaStruct := .none) only [push_cast, DrawG, seval, E1, E2, E3]); (try (refine xsu ?_; try exact xtI))))
  have st := aside_step n T t Q f b y _ _ _ _ rfl rfl rfl rfl HI (fun h => HB y (by omega) h) (fun h => HB b (by omega) h)
  rw [hT] at st
  refine caP (far_s (n * y) (n * f + k * (t - f)) (by omega) (by omega)) ?_
  (iterate 2 ((try simp (etaStruct := .none) only [push_cast, DrawG, seval, E1, E2, E3]); (try (refine xsu ?_; try exact xtI))))
  refine caP (far_s (n * b) (n * f + k * (t - f)) (by omega) (by omega)) ?_
  (iterate 2 ((try simp (etaStruct := .none) only [push_cast, DrawG, seval, E1, E2, E3]); (try (refine xsu ?_; try exact xtI))))
  refine gcP (fun hcc => far_s y t (by omega) (by omega)) ?_
  (iterate 2 ((try simp (etaStruct := .none) only [push_cast, DrawG, seval, E1, E2, E3]); (try (refine xsu ?_; try exact xtI))))
  refine gcP (fun hcc => far_s b t (by omega) (by omega)) ?_
  (iterate 2 ((try simp (etaStruct := .none) only [push_cast, DrawG, seval, E1, E2, E3]); (try (refine xsu ?_; try exact xtI))))
  refine cond_i (fun h2 => ?_) (fun h2 => ?_)
  ·(try replace h2 := xhh h2)
   (iterate 2 ((try simp (etaStruct := .none) only [push_cast, DrawG, seval, E1, E2, E3]); (try (refine xsu ?_; try exact xtI))))
   refine ⟨(y + 1, y), ⟨⟨by simp only; omega, by simp only; omega⟩, ⟨by simp only; omega, by simp only; omega⟩, fun h => st.1 (by omega) h⟩, by simp only; omega, To.mk [] rfl rfl List.nodup_nil trivial ?_⟩
   ·(iterate 2 ((try simp (etaStruct := .none) only [push_cast, DrawG, seval, E1, E2, E3]); (try (refine xsu ?_; try exact xtI))))
  ·(try replace h2 := xhh h2)
   (iterate 2 ((try simp (etaStruct := .none) only [push_cast, DrawG, seval, E1, E2, E3]); (try (refine xsu ?_; try exact xtI))))
   refine ⟨(y + 1, b), ⟨⟨by simp only; omega, by simp only; omega⟩, ⟨by simp only; omega, by simp only; omega⟩, fun h => st.2 (by omega) h⟩, by simp only; omega, To.mk [] rfl rfl List.nodup_nil trivial ?_⟩
   ·(iterate 2 ((try simp (etaStruct := .none) only [push_cast, DrawG, seval, E1, E2, E3]); (try (refine xsu ?_; try exact xtI))))
 ·(try replace h1 := xhh h1)
  (iterate 2 ((try simp (etaStruct := .none) only [push_cast, DrawG, seval, E1, E2, E3]); (try (refine xsu ?_; try exact xtI))))
  exact ret0 rfl trivial (Wk.of (by rw [← HI (by omega)]; rfl))
def ordBad (o : Ord) : Bool := !within o.by_ 0 7 || !within o.kind 1 5 || !within o.who 0 1000000 || !nearB o.c || !within o.what 0 1000000
def ordForm (o : Ord) : Bool := decide (o.kind = 5 ∧ o.who ≠ 0) || decide (o.kind ≠ 2 ∧ o.kind ≠ 3 ∧ ¬ (o.c.x = 0 ∧ o.c.y = 0)) || decide (o.kind ≠ 1 ∧ o.kind ≠ 5 ∧ o.what ≠ 0)
def ordE (o : Ord) : Int := if ordBad o then 1 else if ordForm o then 4 else 0
theorem ordE_ok {o : Ord} (h : ordE o = 0) : (0 ≤ o.by_ ∧ o.by_ ≤ 7) ∧ (1 ≤ o.kind ∧ o.kind ≤ 5) ∧ (0 ≤ o.who ∧ o.who ≤ 1000000) ∧ (-1000 ≤ o.c.x ∧ o.c.x ≤ 1000 ∧ -1000 ≤ o.c.y ∧ o.c.y ≤ 1000) ∧ (0 ≤ o.what ∧ o.what ≤ 1000000) ∧
 (o.kind = 5 → o.who = 0) ∧ (o.kind ≠ 2 → o.kind ≠ 3 → o.c = ⟨0, 0⟩) ∧ (o.kind ≠ 1 → o.kind ≠ 5 → o.what = 0) := by
 unfold ordE at h
 split at h
 ·simp at h
 ·rename_i h1
  split at h
  ·simp at h
  ·rename_i h2
   simp only [ordBad, Bool.or_eq_true, Bool.not_eq_true', not_or, Bool.not_eq_false, within_iff, nearB, decide_eq_true_eq] at h1
   simp only [ordForm, Bool.or_eq_true, decide_eq_true_eq, not_or] at h2
   obtain ⟨⟨⟨⟨a1, a2⟩, a3⟩, a4⟩, a5⟩ := h1
   refine ⟨a1, a2, a3, a4, a5, fun h => by omega, fun h h' => ?_, fun h h' => by omega⟩
   have : o.c.x = 0 ∧ o.c.y = 0 := by omega
   cases hc : o.c; rw [hc] at this; simp at this; rw [this.1, this.2]
def firstE : List Ord → Int
 | [] => 0
 | o :: r => if ordE o ≠ 0 then ordE o else firstE r
theorem firstE_at : ∀ (l : List Ord) (k : Nat), k < l.length → firstE (l.drop k) = if ordE (l.getD k default) ≠ 0 then ordE (l.getD k default) else firstE (l.drop (k + 1)) := by
 intro l k hk
 rw [List.drop_eq_getElem_cons hk, getD_at _ _ hk]; rfl
theorem firstE_drop (l : List Ord) : ∀ k, k ≤ l.length → (∀ j, j < k → ordE (l.getD j default) = 0) → firstE l = firstE (l.drop k)
 | 0, _, _ => by simp
 | k + 1, hk, h => by
  rw [firstE_drop l k (by omega) fun j hj => h j (by omega), firstE_at l k (by omega), if_neg (fun h' => h' (h k (by omega)))]
theorem firstE_ok : ∀ (l : List Ord), firstE l = 0 → ∀ o ∈ l, ordE o = 0
 | [], _, o, ho => by simp at ho
 | a :: r, h, o, ho => by
  unfold firstE at h
  split at h
  ·rename_i h1; exact absurd h h1
  ·rename_i h1
   rcases List.mem_cons.1 ho with rfl | ho
   ·exact Decidable.not_not.1 h1
   ·exact firstE_ok r h o ho
def ordsE (l : List Ord) : Int := if 100 < l.length then 2 else firstE l
theorem ordsE_ok {l : List Ord} (h : ordsE l = 0) : l.length ≤ 100 ∧ ∀ o ∈ l, ordE o = 0 := by
 unfold ordsE at h
 split at h
 ·simp at h
 ·rename_i h1; exact ⟨by omega, firstE_ok l h⟩
def bareV (o : Ord) : Ord := ⟨o.by_, o.kind, if o.kind = 5 then 0 else o.who, if o.kind ≠ 2 ∧ o.kind ≠ 3 then ⟨0, 0⟩ else o.c, if o.kind ≠ 1 ∧ o.kind ≠ 5 then 0 else o.what⟩
theorem ord_dec (a b : Ord) : (decide (a.by_ = b.by_) && (decide (a.kind = b.kind) && (decide (a.who = b.who) && (decide (a.c.x = b.c.x) && (decide (a.c.y = b.c.y) && decide (a.what = b.what)))))) = decide (a = b) := by
 rw [Bool.eq_iff_iff]; obtain ⟨_, _, _, ⟨_, _⟩, _⟩ := a; obtain ⟨_, _, _, ⟨_, _⟩, _⟩ := b; simp [and_assoc]
theorem bare_form (o : Ord) : decide (bareV o = o) = !ordForm o := by
 obtain ⟨b, k, w, ⟨x, y⟩, t⟩ := o
 unfold bareV ordForm
 rw [Bool.eq_iff_iff]
 simp only [decide_eq_true_eq, Bool.not_eq_true', Bool.or_eq_false_iff, decide_eq_false_iff_not, Ord.mk.injEq, true_and]
 constructor
 ·rintro ⟨h1, h2, h3⟩
  refine ⟨⟨fun h => ?_, fun h => ?_⟩, fun h => ?_⟩
  ·rw [if_pos h.1] at h1; omega
  ·rw [if_pos ⟨h.1, h.2.1⟩] at h2; simp at h2; omega
  ·rw [if_pos ⟨h.1, h.2.1⟩] at h3; omega
 ·rintro ⟨⟨h1, h2⟩, h3⟩
  refine ⟨?_, ?_, ?_⟩
  ·split <;> omega
  ·split
   ·simp; omega
   ·rfl
  ·split <;> omega
theorem near_within (c : Cel) : (!within c.x (-1000) 1000 || !within c.y (-1000) 1000) = !nearB c := by
 unfold within nearB
 rw [Bool.eq_iff_iff]; simp; omega
theorem owithin_s (n a b : Int) : Spec Tryz.prog 101 [I .i64 n, I .i64 a, I .i64 b] [] (B (within n a b)) [] := by
 refine spec_am Tryz.func101 rfl rfl mix 15 rfl [.tmp 6] Tryz.results101 (Nat.le_of_ble_eq_true rfl) ?_
 (try (refine xst ?_; try exact xtI))
 exact ret0 rfl trivial (Wk.of (congrArg B (by unfold within; first | rfl | simp)))
theorem bare_o (o : Ord) : Spec Tryz.prog 102 [ordA o] [] (ordA (bareV o)) [] := by
 refine spec_am Tryz.func102 rfl rfl mix 27 rfl [.cell 2 70] Tryz.results102 (Nat.le_of_ble_eq_true rfl) ?_
 (try (refine xst ?_; try exact xtI))
 refine cond_i (fun h1 => ?_) (fun h1 => ?_)
 ·(try replace h1 := xhh h1)
  (try (refine xst ?_; try exact xtI))
  refine cond_i (fun h2 => ?_) (fun h2 => ?_)
  ·(try replace h2 := xhh h2)
   (try (refine xst ?_; try exact xtI))
   refine cond_i (fun h3 => ?_) (fun h3 => ?_)
   ·(try replace h3 := xhh h3)
    (try (refine xst ?_; try exact xtI))
    (first | (refine retA rfl (Wk.of ?_); (try simp (etaStruct := .none) only [push_cast, DrawG, seval]); first | done | (simp [bareV, *]; done) | (simp_all [bareV]; done)) | (refine retA rfl ?_; (try simp (etaStruct := .none) only [push_cast, DrawG, seval]); (try simp [bareV, *]); (try exact wkc)))
   ·(try replace h3 := xhh h3)
    have e2 : ¬ (o.kind ≠ 1 ∧ o.kind ≠ 5) := by omega
    (try (refine xst ?_; try exact xtI))
    (first | (refine retA rfl (Wk.of ?_); (try simp (etaStruct := .none) only [push_cast, DrawG, seval]); first | done | (simp [bareV, *]; done) | (simp_all [bareV]; done)) | (refine retA rfl ?_; (try simp (etaStruct := .none) only [push_cast, DrawG, seval]); (try simp [bareV, *]); (try exact wkc)))
  ·(try replace h2 := xhh h2)
   have e1 : ¬ (o.kind ≠ 2 ∧ o.kind ≠ 3) := by omega
   (try (refine xst ?_; try exact xtI))
   refine cond_i (fun h4 => ?_) (fun h4 => ?_)
   ·(try replace h4 := xhh h4)
    (try (refine xst ?_; try exact xtI))
    (first | (refine retA rfl (Wk.of ?_); (try simp (etaStruct := .none) only [push_cast, DrawG, seval]); first | done | (simp [bareV, *]; done) | (simp_all [bareV]; done)) | (refine retA rfl ?_; (try simp (etaStruct := .none) only [push_cast, DrawG, seval]); (try simp [bareV, *]); (try exact wkc)))
   ·(try replace h4 := xhh h4)
    have e2 : ¬ (o.kind ≠ 1 ∧ o.kind ≠ 5) := by omega
    (try (refine xst ?_; try exact xtI))
    (first | (refine retA rfl (Wk.of ?_); (try simp (etaStruct := .none) only [push_cast, DrawG, seval]); first | done | (simp [bareV, *]; done) | (simp_all [bareV]; done)) | (refine retA rfl ?_; (try simp (etaStruct := .none) only [push_cast, DrawG, seval]); (try simp [bareV, *]); (try exact wkc)))
 ·(try replace h1 := xhh h1)
  (try (refine xst ?_; try exact xtI))
  refine cond_i (fun h5 => ?_) (fun h5 => ?_)
  ·(try replace h5 := xhh h5)
   (try (refine xst ?_; try exact xtI))
   refine cond_i (fun h6 => ?_) (fun h6 => ?_)
   ·(try replace h6 := xhh h6)
    (try (refine xst ?_; try exact xtI))
    (first | (refine retA rfl (Wk.of ?_); (try simp (etaStruct := .none) only [push_cast, DrawG, seval]); first | done | (simp [bareV, *]; done) | (simp_all [bareV]; done)) | (refine retA rfl ?_; (try simp (etaStruct := .none) only [push_cast, DrawG, seval]); (try simp [bareV, *]); (try exact wkc)))
   ·(try replace h6 := xhh h6)
    have e2 : o.kind = 1 := by omega
    (try (refine xst ?_; try exact xtI))
    (first | (refine retA rfl (Wk.of ?_); (try simp (etaStruct := .none) only [push_cast, DrawG, seval]); first | done | (simp [bareV, *]; done) | (simp_all [bareV]; done)) | (refine retA rfl ?_; (try simp (etaStruct := .none) only [push_cast, DrawG, seval]); (try simp [bareV, *]); (try exact wkc)))
  ·(try replace h5 := xhh h5)
   have e1 : ¬ (o.kind ≠ 2 ∧ o.kind ≠ 3) := by omega
   (try (refine xst ?_; try exact xtI))
   refine cond_i (fun h7 => ?_) (fun h7 => ?_)
   ·(try replace h7 := xhh h7)
    (try (refine xst ?_; try exact xtI))
    (first | (refine retA rfl (Wk.of ?_); (try simp (etaStruct := .none) only [push_cast, DrawG, seval]); first | done | (simp [bareV, *]; done) | (simp_all [bareV]; done)) | (refine retA rfl ?_; (try simp (etaStruct := .none) only [push_cast, DrawG, seval]); (try simp [bareV, *]); (try exact wkc)))
   ·(try replace h7 := xhh h7)
    have e2 : ¬ (o.kind ≠ 1 ∧ o.kind ≠ 5) := by omega
    (try (refine xst ?_; try exact xtI))
    (first | (refine retA rfl (Wk.of ?_); (try simp (etaStruct := .none) only [push_cast, DrawG, seval]); first | done | (simp [bareV, *]; done) | (simp_all [bareV]; done)) | (refine retA rfl ?_; (try simp (etaStruct := .none) only [push_cast, DrawG, seval]); (try simp [bareV, *]); (try exact wkc)))
theorem ocheck_s (o : Ord) : Spec Tryz.prog 67 [ordA o] [] (I .i64 (ordE o)) [] := by
 refine spec_am Tryz.func67 rfl rfl mix 43 rfl [.tmp 2] Tryz.results67 (Nat.le_of_ble_eq_true rfl) ?_
 (iterate 2 ((try simp (etaStruct := .none) only [push_cast, DrawG, seval, ord_dec (bareV o) o, bare_form o]); (try (refine xsu ?_; try exact xtI))))
 refine caP (owithin_s o.by_ 0 7) ?_
 (iterate 2 ((try simp (etaStruct := .none) only [push_cast, DrawG, seval, ord_dec (bareV o) o, bare_form o]); (try (refine xsu ?_; try exact xtI))))
 refine gcP (fun hcc => owithin_s o.kind 1 5) ?_
 (iterate 2 ((try simp (etaStruct := .none) only [push_cast, DrawG, seval, ord_dec (bareV o) o, bare_form o]); (try (refine xsu ?_; try exact xtI))))
 refine gcP (fun hcc => owithin_s o.who 0 1000000) ?_
 (iterate 2 ((try simp (etaStruct := .none) only [push_cast, DrawG, seval, ord_dec (bareV o) o, bare_form o]); (try (refine xsu ?_; try exact xtI))))
 refine gcP (fun hcc => owithin_s o.c.x (-1000) 1000) ?_
 (iterate 2 ((try simp (etaStruct := .none) only [push_cast, DrawG, seval, ord_dec (bareV o) o, bare_form o]); (try (refine xsu ?_; try exact xtI))))
 refine gcP (fun hcc => owithin_s o.c.y (-1000) 1000) ?_
 (iterate 2 ((try simp (etaStruct := .none) only [push_cast, DrawG, seval, ord_dec (bareV o) o, bare_form o]); (try (refine xsu ?_; try exact xtI))))
 refine gcP (fun hcc => owithin_s o.what 0 1000000) ?_
 (iterate 2 ((try simp (etaStruct := .none) only [push_cast, DrawG, seval, ord_dec (bareV o) o, bare_form o]); (try (refine xsu ?_; try exact xtI))))
 refine cond_i (fun h1 => ?_) (fun h1 => ?_)
 ·(try replace h1 := xhh h1)
  have hb : ordBad o = true := by unfold ordBad; rw [← near_within]; simpa [or_assoc] using h1
  (iterate 2 ((try simp (etaStruct := .none) only [push_cast, DrawG, seval, ord_dec (bareV o) o, bare_form o]); (try (refine xsu ?_; try exact xtI))))
  (first | (refine retA rfl (Wk.of ?_); (try simp (etaStruct := .none) only [push_cast, DrawG, seval]); first | done | (simp [ordE, hb, *]; done) | (simp_all [ordE, hb]; done)) | (refine retA rfl ?_; (try simp (etaStruct := .none) only [push_cast, DrawG, seval]); (try simp [ordE, hb, *]); (try exact wkc)))
 ·(try replace h1 := xhh h1)
  have hb : ordBad o = false := by unfold ordBad; rw [← near_within]; simpa [and_assoc] using h1
  (iterate 2 ((try simp (etaStruct := .none) only [push_cast, DrawG, seval, ord_dec (bareV o) o, bare_form o]); (try (refine xsu ?_; try exact xtI))))
  refine caP (bare_o o) ?_
  (iterate 2 ((try simp (etaStruct := .none) only [push_cast, DrawG, seval, ord_dec (bareV o) o, bare_form o]); (try (refine xsu ?_; try exact xtI))))
  (try (refine ⟨by kernel_rfl, ?_⟩))
  (iterate 2 ((try simp (etaStruct := .none) only [push_cast, DrawG, seval, ord_dec (bareV o) o, bare_form o]); (try (refine xsu ?_; try exact xtI))))
  refine cond_i (fun h2 => ?_) (fun h2 => ?_)
  ·(try replace h2 := xhh h2)
   (iterate 2 ((try simp (etaStruct := .none) only [push_cast, DrawG, seval, ord_dec (bareV o) o, bare_form o]); (try (refine xsu ?_; try exact xtI))))
   (first | (refine retA rfl (Wk.of ?_); (try simp (etaStruct := .none) only [push_cast, DrawG, seval]); first | done | (simp [ordE, hb, *]; done) | (simp_all [ordE, hb]; done)) | (refine retA rfl ?_; (try simp (etaStruct := .none) only [push_cast, DrawG, seval]); (try simp [ordE, hb, *]); (try exact wkc)))
  ·(try replace h2 := xhh h2)
   (iterate 2 ((try simp (etaStruct := .none) only [push_cast, DrawG, seval, ord_dec (bareV o) o, bare_form o]); (try (refine xsu ?_; try exact xtI))))
   (first | (refine retA rfl (Wk.of ?_); (try simp (etaStruct := .none) only [push_cast, DrawG, seval]); first | done | (simp [ordE, hb, *]; done) | (simp_all [ordE, hb]; done)) | (refine retA rfl ?_; (try simp (etaStruct := .none) only [push_cast, DrawG, seval]); (try simp [ordE, hb, *]); (try exact wkc)))
theorem oright_s (o : Ord) : Spec Tryz.prog 52 [ordA o] [] (I .i64 (ordE o)) [] := by
 refine spec_am Tryz.func52 rfl rfl mix 85 rfl [.tmp 2] Tryz.results52 (Nat.le_of_ble_eq_true rfl) ?_
 (try (refine xst ?_; try exact xtI))
 refine caP (between_s o.by_ 0 7) ?_
 (try (refine xst ?_; try exact xtI))
 refine gcP (fun hcc => between_s o.kind 1 5) ?_
 (try (refine xst ?_; try exact xtI))
 refine gcP (fun hcc => between_s o.who 0 1000000) ?_
 (try (refine xst ?_; try exact xtI))
 refine gcP (fun hcc => cellNear_s o.c) ?_
 (try (refine xst ?_; try exact xtI))
 refine gcP (fun hcc => between_s o.what 0 1000000) ?_
 (try (refine xst ?_; try exact xtI))
 refine cond_i (fun h1 => ?_) (fun h1 => ?_)
 ·(try replace h1 := xhh h1)
  have hb : ordBad o = true := by unfold ordBad; simpa [or_assoc] using h1
  (try (refine xst ?_; try exact xtI))
  (first | (refine retA rfl (Wk.of ?_); (try simp (etaStruct := .none) only [push_cast, DrawG, seval]); first | done | (simp [ordE, hb, *]; done) | (simp_all [ordE, hb]; done)) | (refine retA rfl ?_; (try simp (etaStruct := .none) only [push_cast, DrawG, seval]); (try simp [ordE, hb, *]); (try exact wkc)))
 ·(try replace h1 := xhh h1)
  have hb : ordBad o = false := by unfold ordBad; simpa [and_assoc] using h1
  (try (refine xst ?_; try exact xtI))
  refine cond_i (fun h2 => ?_) (fun h2 => ?_)
  ·(try replace h2 := xhh h2)
   have hc : ordForm o = true := by unfold ordForm; simp; omega
   (try (refine xst ?_; try exact xtI))
   (first | (refine retA rfl (Wk.of ?_); (try simp (etaStruct := .none) only [push_cast, DrawG, seval]); first | done | (simp [ordE, hb, *]; done) | (simp_all [ordE, hb]; done)) | (refine retA rfl ?_; (try simp (etaStruct := .none) only [push_cast, DrawG, seval]); (try simp [ordE, hb, *]); (try exact wkc)))
  ·(try replace h2 := xhh h2)
   have hc : ordForm o = false := by unfold ordForm; simp; omega
   (try (refine xst ?_; try exact xtI))
   (first | (refine retA rfl (Wk.of ?_); (try simp (etaStruct := .none) only [push_cast, DrawG, seval]); first | done | (simp [ordE, hb, *]; done) | (simp_all [ordE, hb]; done)) | (refine retA rfl ?_; (try simp (etaStruct := .none) only [push_cast, DrawG, seval]); (try simp [ordE, hb, *]); (try exact wkc)))
theorem oall_s (l : List Ord) (hl : l.length ≤ 9223372036854775807) : Spec Tryz.prog 38 [.c (.sl 6 (l.map ordP))] [] (I .i64 (ordsE l)) [] := by
 refine spec_am Tryz.func38 rfl rfl mix 21 rfl [.tmp 2] Tryz.results38 (Nat.le_of_ble_eq_true rfl) ?_
 (try (refine xst ?_; try exact xtI))
 refine cond_i (fun h1 => ?_) (fun h1 => ?_)
 ·(try replace h1 := xhh h1)
  have h1' : 100 < l.length := by omega
  (try (refine xst ?_; try exact xtI))
  (first | (refine retA rfl (Wk.of ?_); (try simp (etaStruct := .none) only [push_cast, DrawG, seval]); first | done | (simp [ordsE, *]; done) | (simp_all [ordsE]; done)) | (refine retA rfl ?_; (try simp (etaStruct := .none) only [push_cast, DrawG, seval]); (try simp [ordsE, *]); (try exact wkc)))
 ·(try replace h1 := xhh h1)
  (try (refine xst ?_; try exact xtI))
  refine loopI (fun k : Nat => ⟨[(11, I .i64 k), (10, I .i64 l.length), (9, .c (.sl 6 (l.map ordP)))], [], 0⟩) (fun k : Nat => k ≤ l.length ∧ ∀ j, j < k → ordE (l.getD j default) = 0) (fun k : Nat => l.length - k) (0) (⟨Nat.zero_le _, fun j h => by omega⟩) (To.mk [] rfl rfl List.nodup_nil trivial ?_) ?_
  ·simp (etaStruct := .none) only [push_cast, DrawG, seval]
  rintro k ⟨hk, hn⟩
  (try (refine xst ?_; try exact xtI))
  refine cond_i (fun h2 => ?_) (fun h2 => ?_)
  ·(try replace h2 := xhh h2)
   have hlt : k < l.length := by omega
   (iterate 2 ((try simp (etaStruct := .none) only [push_cast, DrawG, seval, getD_in _ _ _ hlt, ordP]); (try (refine xsu ?_; try exact xtI))))
   refine caP (ocheck_s (l.getD k default)) ?_
   (iterate 2 ((try simp (etaStruct := .none) only [push_cast, DrawG, seval, getD_in _ _ _ hlt, ordP]); (try (refine xsu ?_; try exact xtI))))
   refine cond_i (fun h3 => ?_) (fun h3 => ?_)
   ·(try replace h3 := xhh h3)
    have e : ordsE l = ordE (l.getD k default) := by
     unfold ordsE
     rw [if_neg (by omega), firstE_drop l k hk hn, firstE_at l k hlt, if_pos h3]
    (iterate 2 ((try simp (etaStruct := .none) only [push_cast, DrawG, seval, getD_in _ _ _ hlt, ordP]); (try (refine xsu ?_; try exact xtI))))
    (first | (refine retA rfl (Wk.of ?_); (try simp (etaStruct := .none) only [push_cast, DrawG, seval]); first | done | (simp [e, *]; done) | (simp_all [e]; done)) | (refine retA rfl ?_; (try simp (etaStruct := .none) only [push_cast, DrawG, seval]); (try simp [e, *]); (try exact wkc)))
   ·(try replace h3 := xhh h3)
    (iterate 2 ((try simp (etaStruct := .none) only [push_cast, DrawG, seval, getD_in _ _ _ hlt, ordP]); (try (refine xsu ?_; try exact xtI))))
    refine ⟨k + 1, ⟨by omega, fun j hj => by rcases Nat.lt_or_ge j k with h | h; exact hn j h; rw [show j = k by omega]; exact h3⟩, by omega, To.mk [] rfl rfl List.nodup_nil trivial ?_⟩
    ·(iterate 2 ((try simp (etaStruct := .none) only [push_cast, DrawG, seval, getD_in _ _ _ hlt, ordP]); (try (refine xsu ?_; try exact xtI))))
  ·(try replace h2 := xhh h2)
   have e : ordsE l = 0 := by
    unfold ordsE
    rw [if_neg (by omega), firstE_drop l k hk hn, List.drop_eq_nil_of_le (by omega)]; rfl
   (try (refine xst ?_; try exact xtI))
   (first | (refine retA rfl (Wk.of ?_); (try simp (etaStruct := .none) only [push_cast, DrawG, seval]); first | done | (simp [e, *]; done) | (simp_all [e]; done)) | (refine retA rfl ?_; (try simp (etaStruct := .none) only [push_cast, DrawG, seval]); (try simp [e, *]); (try exact wkc)))
theorem orights_s (l : List Ord) (hl : l.length ≤ 9223372036854775807) : Spec Tryz.prog 27 [.c (.sl 6 (l.map ordP))] [] (I .i64 (ordsE l)) [] := by
 refine spec_am Tryz.func27 rfl rfl mix 25 rfl [.tmp 2] Tryz.results27 (Nat.le_of_ble_eq_true rfl) ?_
 (try (refine xst ?_; try exact xtI))
 refine cond_i (fun h1 => ?_) (fun h1 => ?_)
 ·(try replace h1 := xhh h1)
  have h1' : 100 < l.length := by omega
  (try (refine xst ?_; try exact xtI))
  (first | (refine retA rfl (Wk.of ?_); (try simp (etaStruct := .none) only [push_cast, DrawG, seval]); first | done | (simp [ordsE, *]; done) | (simp_all [ordsE]; done)) | (refine retA rfl ?_; (try simp (etaStruct := .none) only [push_cast, DrawG, seval]); (try simp [ordsE, *]); (try exact wkc)))
 ·(try replace h1 := xhh h1)
  have h1' : ¬ 100 < l.length := by omega
  (try (refine xst ?_; try exact xtI))
  refine loopI (fun k : Nat => ⟨[(4, I .i64 ((k : Int) - 1)), (3, I .i64 (firstE (l.drop k))), (0, .c (.sl 6 (l.map ordP)))], [], 0⟩) (fun k : Nat => k ≤ l.length) (fun k : Nat => k) (l.length) (Nat.le_refl _) (To.mk [] rfl rfl List.nodup_nil trivial ?_) ?_
  ·simp (etaStruct := .none) only [push_cast, DrawG, seval, List.drop_length, firstE]
  rintro k hk
  (try (refine xst ?_; try exact xtI))
  refine cond_i (fun h2 => ?_) (fun h2 => ?_)
  ·(try replace h2 := xhh h2)
   have hlt : k - 1 < l.length := by omega
   have ek : ((k : Int) - 1).toNat = k - 1 := by omega
   have ek2 : ((k - 1 : Nat) : Int) = (k : Int) - 1 := by omega
   have fe := firstE_at l (k - 1) hlt
   rw [show k - 1 + 1 = k by omega] at fe
   (iterate 2 ((try simp (etaStruct := .none) only [push_cast, DrawG, seval, ek, getD_in _ _ _ hlt, ordP]); (try (refine xsu ?_; try exact xtI))))
   refine caP (oright_s (l.getD (k - 1) default)) ?_
   (iterate 2 ((try simp (etaStruct := .none) only [push_cast, DrawG, seval, ek, getD_in _ _ _ hlt, ordP]); (try (refine xsu ?_; try exact xtI))))
   refine cond_i (fun h3 => ?_) (fun h3 => ?_)
   ·(try replace h3 := xhh h3)
    rw [if_pos h3] at fe
    (iterate 2 ((try simp (etaStruct := .none) only [push_cast, DrawG, seval, ek, getD_in _ _ _ hlt, ordP]); (try (refine xsu ?_; try exact xtI))))
    refine ⟨k - 1, by omega, by omega, To.mk [] rfl rfl List.nodup_nil trivial ?_⟩
    ·(iterate 2 ((try simp (etaStruct := .none) only [push_cast, DrawG, seval, fe, ek2]); (try (refine xsu ?_; try exact xtI))))
   ·(try replace h3 := xhh h3)
    rw [if_neg (by simpa using h3)] at fe
    (iterate 2 ((try simp (etaStruct := .none) only [push_cast, DrawG, seval, ek, getD_in _ _ _ hlt, ordP]); (try (refine xsu ?_; try exact xtI))))
    refine ⟨k - 1, by omega, by omega, To.mk [] rfl rfl List.nodup_nil trivial ?_⟩
    ·(iterate 2 ((try simp (etaStruct := .none) only [push_cast, DrawG, seval, fe, ek2]); (try (refine xsu ?_; try exact xtI))))
  ·(try replace h2 := xhh h2)
   obtain rfl : k = 0 := by omega
   (try (refine xst ?_; try exact xtI))
   (first | (refine retA rfl (Wk.of ?_); (try simp (etaStruct := .none) only [push_cast, DrawG, seval]); first | done | (simp [ordsE, *]; done) | (simp_all [ordsE]; done)) | (refine retA rfl ?_; (try simp (etaStruct := .none) only [push_cast, DrawG, seval]); (try simp [ordsE, *]); (try exact wkc)))
structure Sea where
 waits : List Ord
 late : Int
 gone : Bool
 deriving DecidableEq, Inhabited
end Go.Proofs.YtllmjdcblfkfaaaGreat
namespace Go.Proofs.YtllmjdcblfkfaaaGreat
set_option linter.all false
open Go.RowKit
def lateS (s : Sea) : Sea := ⟨s.waits, if 0 < s.waits.length then 0 else if s.gone then s.late else min (s.late + 1) 1000000, s.gone⟩
theorem drop_at {α : Type} [Inhabited α] (l : List α) (i : Nat) (h : i < l.length) : l.drop i = l.getD i default :: l.drop (i + 1) := by rw [List.drop_eq_getElem_cons h, getD_at _ _ h]
end Go.Proofs.YtllmjdcblfkfaaaGreat
namespace Go.Proofs.YtllmjdcblfkfaaaGreat
set_option linter.all false
open Go.RowKit
set_option maxRecDepth 100000
set_option maxHeartbeats 1000000
def wldL (w : Wld) : Prop := w.f.p.length ≤ 9223372036854775807 ∧ w.bases.length ≤ 9223372036854775807 ∧ w.stocks.length ≤ 9223372036854775807 ∧ w.mines.length ≤ 9223372036854775807 ∧ w.troops.length ≤ 9223372036854775807
abbrev wldC (w : Wld) : List AV := [I .i64 w.f.w, I .i64 w.f.h, .c (.sl 1 (w.f.p.map i64P)), .c (.sl 2 (w.bases.map celP)), .c (.sl 1 (w.stocks.map i64P)), .c (.sl 1 (w.mines.map i64P)), .c (.sl 7 (w.troops.map trpP)), I .i64 w.next, I .i64 w.now]
abbrev trpA (t : Trp) : AV := .agg [I .i64 t.id, I .i64 t.owner, I .i64 t.kind, I .i64 t.c.x, I .i64 t.c.y, I .i64 t.life, I .i64 t.load]
abbrev trpC (t : Trp) : List AV := [I .i64 t.id, I .i64 t.owner, I .i64 t.kind, I .i64 t.c.x, I .i64 t.c.y, I .i64 t.life, I .i64 t.load]
theorem worldE_form {w : Wld} (hf : fldE w.f = 0) (hb : ¬ (8 < w.bases.length ∨ 100 < w.troops.length)) (h : worldF w = false) : worldE w = 4 := by
 unfold worldE; rw [if_neg (by simp [hf]), if_neg hb, h]; rfl
theorem worldE_bad {w : Wld} (hf : fldE w.f = 0) (hb : ¬ (8 < w.bases.length ∨ 100 < w.troops.length)) (h : worldB w = false) : worldE w = 4 := by
 unfold worldE; rw [if_neg (by simp [hf]), if_neg hb, h]; simp
theorem worldE_fine {w : Wld} (hf : fldE w.f = 0) (hb : ¬ (8 < w.bases.length ∨ 100 < w.troops.length)) (h1 : worldF w = true) (h : worldB w = true) : worldE w = 0 := by
 unfold worldE; rw [if_neg (by simp [hf]), if_neg hb, h1, h]; rfl
theorem worldB_kind {w : Wld} {k : Nat} (hk : k < w.troops.length) (h : within (w.troops.getD k default).kind 1 2 = false) : worldB w = false := by
 have : allN (troopB w) w.troops.length = false := by
  rw [← Bool.not_eq_true, allN_iff]; intro hh
  have := hh k hk
  unfold troopB at this; rw [h] at this; simp at this
 unfold worldB; rw [this]; simp
theorem cel_neq (a b : Cel) : (!(decide (a.x = b.x) && decide (a.y = b.y))) = !decide (a = b) := by rw [cel_dec]
theorem wright_s (w : Wld) (hl : wldL w) : Spec Tryz.prog 24 [wldA w] [] (I .i64 (worldE w)) [] := by
 obtain ⟨l1, l2, l3, l4, l5⟩ := hl
 refine spec_am Tryz.func24 rfl rfl mix 213 rfl [.tmp 2] Tryz.results24 (Nat.le_of_ble_eq_true rfl) ?_
 (try (refine xst ?_; try exact xtI))
 refine caP (fright_s w.f l1) ?_
 (try (refine xst ?_; try exact xtI))
 refine cond_i (fun h1 => ?_) (fun h1 => ?_)
 ·(try replace h1 := xhh h1)
  have e : worldE w = fldE w.f := by unfold worldE; rw [if_pos (by simpa using h1)]
  (try (refine xst ?_; try exact xtI))
  (first | (refine retA rfl (Wk.of ?_); (try simp (etaStruct := .none) only [push_cast, DrawG, seval]); first | done | (simp [e, *]; done) | (simp_all [e]; done)) | (refine retA rfl ?_; (try simp (etaStruct := .none) only [push_cast, DrawG, seval]); (try simp [e, *]); (try exact wkc)))
 ·(try replace h1 := xhh h1)
  have hf : fldE w.f = 0 := by simpa using h1
  have hfo := fldE_ok hf
  (try (refine xst ?_; try exact xtI))
  refine cond_i (fun h2 => ?_) (fun h2 => ?_)
  ·(try replace h2 := xhh h2)
   have e : worldE w = 2 := by unfold worldE; rw [if_neg (by simp [hf]), if_pos (by omega)]
   (try (refine xst ?_; try exact xtI))
   (first | (refine retA rfl (Wk.of ?_); (try simp (etaStruct := .none) only [push_cast, DrawG, seval]); first | done | (simp [e, *]; done) | (simp_all [e]; done)) | (refine retA rfl ?_; (try simp (etaStruct := .none) only [push_cast, DrawG, seval]); (try simp [e, *]); (try exact wkc)))
  ·(try replace h2 := xhh h2)
   have hb : ¬ (8 < w.bases.length ∨ 100 < w.troops.length) := by omega
   (try (refine xst ?_; try exact xtI))
   refine gcP (fun hcc => between_s _ _ _) ?_
   (try (refine xst ?_; try exact xtI))
   refine gcP (fun hcc => between_s _ _ _) ?_
   (try (refine xst ?_; try exact xtI))
   refine cond_i (fun h3 => ?_) (fun h3 => ?_)
   ·(try replace h3 := xhh h3)
    have e : worldE w = 4 := by
     refine worldE_form hf hb ?_
     unfold worldF
     simp only [Bool.and_eq_false_iff, decide_eq_false_iff_not]
     rcases h3 with ((h | h) | h) | h
     ·exact .inl (.inl (.inl (by omega)))
     ·exact .inl (.inl (.inr (by omega)))
     ·exact .inl (.inr h)
     ·exact .inr h
    (try (refine xst ?_; try exact xtI))
    (first | (refine retA rfl (Wk.of ?_); (try simp (etaStruct := .none) only [push_cast, DrawG, seval]); first | done | (simp [e, *]; done) | (simp_all [e]; done)) | (refine retA rfl ?_; (try simp (etaStruct := .none) only [push_cast, DrawG, seval]); (try simp [e, *]); (try exact wkc)))
   ·(try replace h3 := xhh h3)
    have hwf : worldF w = true := by
     unfold worldF
     simp only [Bool.and_eq_true, decide_eq_true_eq]
     exact ⟨⟨⟨by omega, by omega⟩, h3.1.2⟩, h3.2⟩
    have hnx := within_iff.1 h3.1.2
    have hls : w.stocks.length = w.bases.length := by omega
    have hlm : w.mines.length = w.f.p.length := by omega
    (try (refine xst ?_; try exact xtI))
    refine loopI (fun k : Nat => ⟨[(61, I .i64 k), (60, I .i64 w.bases.length), (4, B (allN (baseB w) k)), (1, .ptr 0 0 0)], [(0, .blk 28 (wldC w))], 1⟩) (fun k : Nat => k ≤ w.bases.length) (fun k : Nat => w.bases.length - k) (0) (Nat.zero_le _) (To.mk [0] rfl rfl (by decide) ?_ ?_) ?_
    ·simp (etaStruct := .none) only [push_cast, DrawG, seval]
    ·simp (etaStruct := .none) only [push_cast, DrawG, seval, allN]
    rintro k hk
    (try (refine xst ?_; try exact xtI))
    refine cond_i (fun h4 => ?_) (fun h4 => ?_)
    ·(try replace h4 := xhh h4)
     have hlt : k < w.bases.length := by omega
     have hlt2 : k < w.stocks.length := by omega
     (iterate 2 ((try simp (etaStruct := .none) only [push_cast, DrawG, seval, getD_in _ _ _ hlt, celP, getD_in _ _ _ hlt2, i64P]); (try (refine xsu ?_; try exact xtI))))
     refine gcP (fun hcc => ground_s w.f (w.bases.getD k default) hf) ?_
     (iterate 2 ((try simp (etaStruct := .none) only [push_cast, DrawG, seval, getD_in _ _ _ hlt, celP, getD_in _ _ _ hlt2, i64P]); (try (refine xsu ?_; try exact xtI))))
     refine gcP (fun hcc => between_s (w.stocks.getD k default) 0 1000000) ?_
     (iterate 2 ((try simp (etaStruct := .none) only [push_cast, DrawG, seval, getD_in _ _ _ hlt, celP, getD_in _ _ _ hlt2, i64P]); (try (refine xsu ?_; try exact xtI))))
     (try (refine ⟨by kernel_rfl, ?_⟩))
     (iterate 2 ((try simp (etaStruct := .none) only [push_cast, DrawG, seval, getD_in _ _ _ hlt, celP, getD_in _ _ _ hlt2, i64P]); (try (refine xsu ?_; try exact xtI))))
     refine loopI (fun j : Nat => ⟨[(84, I .i64 j), (83, I .i64 k), (61, I .i64 k), (60, I .i64 w.bases.length), (5, I .i64 k), (4, B (((allN (baseB w) k && groundV w.f (w.bases.getD k default)) && within (w.stocks.getD k default) 0 1000000) && allN (fun j => !decide (w.bases.getD j default = w.bases.getD k default)) j)), (1, .ptr 0 0 0)], [(0, .blk 28 (wldC w))], 1⟩) (fun j : Nat => j ≤ k) (fun j : Nat => k - j) (0) (Nat.zero_le _) (To.mk [0] rfl rfl (by decide) ?_ ?_) ?_
     ·simp (etaStruct := .none) only [push_cast, DrawG, seval]
     ·simp (etaStruct := .none) only [push_cast, DrawG, seval, allN, Bool.and_true]
     rintro j hj
     (iterate 2 ((try simp (etaStruct := .none) only [push_cast, DrawG, seval, getD_in _ _ _ hlt, celP, getD_in _ _ _ hlt2, i64P]); (try (refine xsu ?_; try exact xtI))))
     refine cond_i (fun h5 => ?_) (fun h5 => ?_)
     ·(try replace h5 := xhh h5)
      have hltj : j < w.bases.length := by omega
      (iterate 2 ((try simp (etaStruct := .none) only [push_cast, DrawG, seval, getD_in _ _ _ hlt, celP, getD_in _ _ _ hlt2, i64P, getD_in _ _ _ hltj, cel_neq, cel_dec]); (try (refine xsu ?_; try exact xtI))))
      (try (refine ⟨by kernel_rfl, ?_⟩))
      (iterate 2 ((try simp (etaStruct := .none) only [push_cast, DrawG, seval, getD_in _ _ _ hlt, celP, getD_in _ _ _ hlt2, i64P, getD_in _ _ _ hltj, cel_neq, cel_dec]); (try (refine xsu ?_; try exact xtI))))
      refine ⟨j + 1, by omega, by omega, To.mk [0] rfl rfl (by decide) ?_ ?_⟩
      ·(iterate 2 ((try simp (etaStruct := .none) only [push_cast, DrawG, seval, getD_in _ _ _ hlt, celP, getD_in _ _ _ hlt2, i64P, getD_in _ _ _ hltj, cel_neq, cel_dec]); (try (refine xsu ?_; try exact xtI))))
      ·(iterate 2 ((try simp (etaStruct := .none) only [push_cast, DrawG, seval, allN, ← Bool.and_assoc]); (try (refine xsu ?_; try exact xtI))))
     ·(try replace h5 := xhh h5)
      obtain rfl : k = j := by omega
      (iterate 2 ((try simp (etaStruct := .none) only [push_cast, DrawG, seval, getD_in _ _ _ hlt, celP, getD_in _ _ _ hlt2, i64P]); (try (refine xsu ?_; try exact xtI))))
      refine ⟨k + 1, by omega, by omega, To.mk [0] rfl rfl (by decide) ?_ ?_⟩
      ·(iterate 2 ((try simp (etaStruct := .none) only [push_cast, DrawG, seval, getD_in _ _ _ hlt, celP, getD_in _ _ _ hlt2, i64P]); (try (refine xsu ?_; try exact xtI))))
      ·(iterate 2 ((try simp (etaStruct := .none) only [push_cast, DrawG, seval, allN, baseB, ← Bool.and_assoc]); (try (refine xsu ?_; try exact xtI))))
    ·(try replace h4 := xhh h4)
     obtain rfl : k = w.bases.length := by omega
     (try (refine xst ?_; try exact xtI))
     refine loopI (fun k : Nat => ⟨[(106, I .i64 k), (105, I .i64 w.mines.length), (104, .c (.sl 1 (w.mines.map i64P))), (4, B (allN (baseB w) w.bases.length && allN (mineB w) k)), (1, .ptr 0 0 0)], [(0, .blk 28 (wldC w))], 1⟩) (fun k : Nat => k ≤ w.mines.length) (fun k : Nat => w.mines.length - k) (0) (Nat.zero_le _) (To.mk [0] rfl rfl (by decide) ?_ ?_) ?_
     ·simp (etaStruct := .none) only [push_cast, DrawG, seval]
     ·simp (etaStruct := .none) only [push_cast, DrawG, seval, allN, Bool.and_true]
     rintro k hk
     (try (refine xst ?_; try exact xtI))
     refine cond_i (fun h6 => ?_) (fun h6 => ?_)
     ·(try replace h6 := xhh h6)
      have hlt : k < w.mines.length := by omega
      have hlt2 : k < w.f.p.length := by omega
      (iterate 2 ((try simp (etaStruct := .none) only [push_cast, DrawG, seval, getD_in _ _ _ hlt, getD_in _ _ _ hlt2, i64P]); (try (refine xsu ?_; try exact xtI))))
      refine gcP (fun hcc => between_s (w.mines.getD k default) 0 1000000) ?_
      (iterate 2 ((try simp (etaStruct := .none) only [push_cast, DrawG, seval, getD_in _ _ _ hlt, getD_in _ _ _ hlt2, i64P]); (try (refine xsu ?_; try exact xtI))))
      refine ⟨k + 1, by omega, by omega, To.mk [0] rfl rfl (by decide) ?_ ?_⟩
      ·(iterate 2 ((try simp (etaStruct := .none) only [push_cast, DrawG, seval, getD_in _ _ _ hlt, getD_in _ _ _ hlt2, i64P]); (try (refine xsu ?_; try exact xtI))))
      ·(iterate 2 ((try simp (etaStruct := .none) only [push_cast, DrawG, seval, allN, mineB, ← Bool.and_assoc]); (try (refine xsu ?_; try exact xtI))))
     ·(try replace h6 := xhh h6)
      obtain rfl : k = w.mines.length := by omega
      (try (refine xst ?_; try exact xtI))
      refine loopI (fun k : Nat => ⟨[(133, I .i64 k), (132, I .i64 w.troops.length), (131, .c (.sl 7 (w.troops.map trpP))), (4, B ((allN (baseB w) w.bases.length && allN (mineB w) w.mines.length) && allN (troopB w) k)), (1, .ptr 0 0 0)], [(0, .blk 28 (wldC w))], 1⟩) (fun k : Nat => k ≤ w.troops.length) (fun k : Nat => w.troops.length - k) (0) (Nat.zero_le _) (To.mk [0] rfl rfl (by decide) ?_ ?_) ?_
      ·simp (etaStruct := .none) only [push_cast, DrawG, seval]
      ·simp (etaStruct := .none) only [push_cast, DrawG, seval, allN, Bool.and_true]
      rintro k hk
      (try (refine xst ?_; try exact xtI))
      refine cond_i (fun h7 => ?_) (fun h7 => ?_)
      ·(try replace h7 := xhh h7)
       have hlt : k < w.troops.length := by omega
       (iterate 2 ((try simp (etaStruct := .none) only [push_cast, DrawG, seval, getD_in _ _ _ hlt, trpP]); (try (refine xsu ?_; try exact xtI))))
       refine caP (between_s (w.troops.getD k default).kind 1 2) ?_
       (iterate 2 ((try simp (etaStruct := .none) only [push_cast, DrawG, seval, getD_in _ _ _ hlt, trpP]); (try (refine xsu ?_; try exact xtI))))
       refine cond_i (fun h8 => ?_) (fun h8 => ?_)
       ·(try replace h8 := xhh h8)
        have e : worldE w = 4 := worldE_bad hf hb (worldB_kind hlt (by simpa using h8))
        (iterate 2 ((try simp (etaStruct := .none) only [push_cast, DrawG, seval, getD_in _ _ _ hlt, trpP]); (try (refine xsu ?_; try exact xtI))))
        (first | (refine retA rfl (Wk.of ?_); (try simp (etaStruct := .none) only [push_cast, DrawG, seval]); first | done | (simp [e, *]; done) | (simp_all [e]; done)) | (refine retA rfl ?_; (try simp (etaStruct := .none) only [push_cast, DrawG, seval]); (try simp [e, *]); (try exact wkc)))
       ·(try replace h8 := xhh h8)
        have hkd0 : within (w.troops.getD k default).kind 1 2 = true := by simpa using h8
        have hkd := within_iff.1 hkd0
        have lk : (List.take k (List.map trpP w.troops)).length = k := by rw [List.length_take, List.length_map]; omega
        have hkd2 : (w.troops.getD k default).kind = 1 ∨ (w.troops.getD k default).kind = 2 := by omega
        (iterate 2 ((try simp (etaStruct := .none) only [push_cast, DrawG, seval, getD_in _ _ _ hlt, trpP]); (try (refine xsu ?_; try exact xtI))))
        refine gcP (fun hcc => between_s (w.troops.getD k default).id 1 (w.next - 1)) ?_
        (iterate 2 ((try simp (etaStruct := .none) only [push_cast, DrawG, seval, getD_in _ _ _ hlt, trpP]); (try (refine xsu ?_; try exact xtI))))
        refine gcP (fun hcc => between_s (w.troops.getD k default).owner 0 ((w.bases.length : Int) - 1)) ?_
        (iterate 2 ((try simp (etaStruct := .none) only [push_cast, DrawG, seval, getD_in _ _ _ hlt, trpP]); (try (refine xsu ?_; try exact xtI))))
        refine gcP (fun hcc => ground_s w.f (w.troops.getD k default).c hf) ?_
        (iterate 2 ((try simp (etaStruct := .none) only [push_cast, DrawG, seval, getD_in _ _ _ hlt, trpP]); (try (refine xsu ?_; try exact xtI))))
        refine gcP (fun hcc => kindOf_s (w.troops.getD k default).kind hkd2) ?_
        (iterate 2 ((try simp (etaStruct := .none) only [push_cast, DrawG, seval, getD_in _ _ _ hlt, trpP]); (try (refine xsu ?_; try exact xtI))))
        refine gcP (fun hcc => between_s (w.troops.getD k default).life 1 (kindV (w.troops.getD k default).kind).life) ?_
        (iterate 2 ((try simp (etaStruct := .none) only [push_cast, DrawG, seval, getD_in _ _ _ hlt, trpP]); (try (refine xsu ?_; try exact xtI))))
        refine gcP (fun hcc => between_s (w.troops.getD k default).load 0 (5 * (2 - (w.troops.getD k default).kind))) ?_
        (iterate 2 ((try simp (etaStruct := .none) only [push_cast, DrawG, seval, getD_in _ _ _ hlt, trpP]); (try (refine xsu ?_; try exact xtI))))
        (try (refine ⟨by kernel_rfl, ?_⟩))
        (iterate 2 ((try simp (etaStruct := .none) only [push_cast, DrawG, seval, getD_in _ _ _ hlt, trpP]); (try (refine xsu ?_; try exact xtI))))
        refine loopI (fun j : Nat => ⟨[(190, I .i64 j), (189, I .i64 k), (188, .c (.sl 7 ((w.troops.map trpP).take k))), (133, I .i64 k), (132, I .i64 w.troops.length), (131, .c (.sl 7 (w.troops.map trpP))), (10, .ptr 1 0 0), (4, B (((allN (baseB w) w.bases.length && allN (mineB w) w.mines.length) && (allN (troopB w) k && trp1 w (w.troops.getD k default))) && allN (fun j => decide ((w.troops.getD j default).id < (w.troops.getD k default).id) && !decide ((w.troops.getD j default).c = (w.troops.getD k default).c)) j)), (1, .ptr 0 0 0)], [(0, .blk 28 (wldC w)), (1, .blk 83 (trpC (w.troops.getD k default)))], 2⟩) (fun j : Nat => j ≤ k) (fun j : Nat => k - j) (0) (Nat.zero_le _) (To.mk [0, 1] rfl rfl (by decide) ?_ ?_) ?_
        ·simp (etaStruct := .none) only [push_cast, DrawG, seval]
        ·simp (etaStruct := .none) only [push_cast, DrawG, seval, allN, lk, trp1, Bool.and_true, ← Bool.and_assoc]
        rintro j hj
        (iterate 2 ((try simp (etaStruct := .none) only [push_cast, DrawG, seval, getD_in _ _ _ hlt, trpP]); (try (refine xsu ?_; try exact xtI))))
        refine cond_i (fun h9 => ?_) (fun h9 => ?_)
        ·(try replace h9 := xhh h9)
         have hltj : j < w.troops.length := by omega
         have hltk : j < (w.troops.take k).length := by rw [List.length_take]; omega
         have et : (w.troops.map trpP).take k = (w.troops.take k).map trpP := by rw [List.map_take]
         have eg : (w.troops.take k).getD j default = w.troops.getD j default := by simp [List.getD_eq_getElem?_getD, List.getElem?_take, show j < k by omega]
         (iterate 2 ((try simp (etaStruct := .none) only [push_cast, DrawG, seval, getD_in _ _ _ hlt, trpP, et, getD_in _ _ _ hltk, eg, trpP, cel_neq, cel_dec]); (try (refine xsu ?_; try exact xtI))))
         refine ⟨j + 1, by omega, by omega, To.mk [0, 1] rfl rfl (by decide) ?_ ?_⟩
         ·(iterate 2 ((try simp (etaStruct := .none) only [push_cast, DrawG, seval, getD_in _ _ _ hlt, trpP, et, getD_in _ _ _ hltk, eg, trpP, cel_neq, cel_dec]); (try (refine xsu ?_; try exact xtI))))
         ·(iterate 2 ((try simp (etaStruct := .none) only [push_cast, DrawG, seval, allN, ← Bool.and_assoc]); (try (refine xsu ?_; try exact xtI))))
        ·(try replace h9 := xhh h9)
         obtain rfl : k = j := by omega
         (iterate 2 ((try simp (etaStruct := .none) only [push_cast, DrawG, seval, getD_in _ _ _ hlt, trpP]); (try (refine xsu ?_; try exact xtI))))
         refine ⟨k + 1, by omega, by omega, To.mk [0] rfl rfl (by decide) ?_ ?_⟩
         ·(iterate 2 ((try simp (etaStruct := .none) only [push_cast, DrawG, seval, getD_in _ _ _ hlt, trpP]); (try (refine xsu ?_; try exact xtI))))
         ·(iterate 2 ((try simp (etaStruct := .none) only [push_cast, DrawG, seval, allN, troopB, trp2, hkd0, Bool.true_and, ← Bool.and_assoc]); (try (refine xsu ?_; try exact xtI))))
      ·(try replace h7 := xhh h7)
       obtain rfl : k = w.troops.length := by omega
       (try (refine xst ?_; try exact xtI))
       refine cond_i (fun h10 => ?_) (fun h10 => ?_)
       ·(try replace h10 := xhh h10)
        have e : worldE w = 4 := worldE_bad hf hb (by unfold worldB; simpa only [Bool.and_eq_false_iff] using h10)
        (try (refine xst ?_; try exact xtI))
        (first | (refine retA rfl (Wk.of ?_); (try simp (etaStruct := .none) only [push_cast, DrawG, seval]); first | done | (simp [e, *]; done) | (simp_all [e]; done)) | (refine retA rfl ?_; (try simp (etaStruct := .none) only [push_cast, DrawG, seval]); (try simp [e, *]); (try exact wkc)))
       ·(try replace h10 := xhh h10)
        have e : worldE w = 0 := worldE_fine hf hb hwf (by unfold worldB; simpa using h10)
        (try (refine xst ?_; try exact xtI))
        (first | (refine retA rfl (Wk.of ?_); (try simp (etaStruct := .none) only [push_cast, DrawG, seval]); first | done | (simp [e, *]; done) | (simp_all [e]; done)) | (refine retA rfl ?_; (try simp (etaStruct := .none) only [push_cast, DrawG, seval]); (try simp [e, *]); (try exact wkc)))
end Go.Proofs.YtllmjdcblfkfaaaGreat
