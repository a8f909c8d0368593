/- Lemmas for the proof of hostDoes.proved. -/
import Derived.Test.YtbapdgmcndgieaaGreatHoD4
import Derived.Test.YtbapdgmcndgieaaGreatProg
import Derived.KernelRfl
namespace Go.Proofs.YtbapdgmcndgieaaGreat
set_option linter.all false
open Go.RowKit
theorem zar {P:Program} {rs:List ResultVar} {r:AV} {s:St} {φ : Prop} {xs:List AV} (h:zko P (look s.t) (zat s.h) rs=some (φ,xs)) (hw:Wk (cv [] (zat s.h) (z5p xs)) r) (hφ : φ := by repeat' (first|exact trivial|exact rfl|refine⟨?_,?_⟩)):z7q P 0 rs r [] s:=zbe h hφ hw
theorem wkc {x y:AV} (h:Wk x y:=by first|exact Wk.refl _|exact Wk.nil _|(refine Wk.tup ?_;repeat' (first|exact trivial|exact Wk.refl _|exact Wk.nil _|refine⟨?_,?_⟩|(refine Wk.agg ?_)))):Wk x y:=h
theorem obA {a b:Prop} (h:b) (ha:a:=by first|omega|decide|(simp;done)|(simp;omega)|(intro hh;refine⟨hh,?_⟩;omega)|(simp[zmf,zc0];done)|(simp +contextual;done)|fail):a∧b:=⟨ha,h⟩
theorem tdv {a b:Int} (h:0≤a):a.tdiv b=a/b:=Int.tdiv_eq_ediv_of_nonneg h
theorem tmd {a b:Int} (h:0≤a):a.tmod b=a % b:=Int.tmod_eq_emod_of_nonneg h
theorem xa {p:Prop} [Decidable p]:(decide p=true)=p:=decide_eq_true_eq
theorem xb {p:Prop} [Decidable p]:decide p=false↔¬p:=decide_eq_false_iff_not
theorem xc {b:Bool} : ((!b)=true)↔b=false:=by cases b<;>simp
theorem xd {b:Bool} : ((!b)=false)↔b=true:=by cases b<;>simp
theorem xe {a b:Bool} : (a||b)=true↔a=true∨b=true:=by cases a<;>simp
theorem xf {a b:Bool} : (a&&b)=true↔a=true∧b=true:=by cases a<;>simp
theorem xg {a b:Bool} : (a||b)=false↔a=false∧b=false:=by cases a<;>simp
theorem xh {a b:Bool} : (a&&b)=false↔a=false∨b=false:=by cases a<;>simp
theorem xi {a b:Int} : ¬a<b↔b≤a:=Int.not_lt
theorem xj {a b:Int} : ¬a≤b↔b<a:=Int.not_le
theorem xk {p q:Prop} : ¬(p∧q)↔(p→¬q):=not_and
theorem xl {p q:Prop} : ¬(p∨q)↔¬p∧¬q:=not_or
attribute [push_cast] drE zqk zxk zru yda awp yf9 opW zub opX opG ex4 ex3 z5t zwp zwo zpj zk3 zwq zwn zdz fz fzL inZ fzH zg3 z02 zx7 zy0 zmi kty yfj zyv ex2 ex1 zmk zql z9l ygc zga zrv zqe zf6 zp0 znl zo2 zxl z59 zj1 zj2 z6e zrr zy6 z3u z7g zw1 zvt ygp zka zut yey ygn z4w cellsOf ztp zq7 zax zik yc7 zqo zg4 yd5 zwt zg9 zow yag z7l zy3 ygq z6p zhs zda St.app z4a yfa yfb ybm zcd zin ofV yh8 yjf yjm z1t z9c opK drK yix yiy yiw ybt ybu ybs zqq hsT ygr I B S Op.operands Call.operands cv cvL ix ix.go z7a cvC up upL upC zzu upI znj zx1 zz4 zuz yb1 z8q zte zfz zbl z7c cvT cvH hsW zko z5p WkL WkC List.map_cons List.map_nil Option.toArray List.getElem?_cons_zero List.getElem?_cons_succ List.getElem?_nil List.drop_succ_cons List.drop_zero List.drop_nil List.take_succ_cons List.take_zero List.take_nil List.append_nil List.nil_append List.cons_append List.getElem?_toArray List.length_cons List.length_nil List.all_cons List.all_nil Bool.and_true Bool.true_and Bool.and_self Bool.and_false Bool.false_and Bool.or_false Bool.or_true Bool.true_or Bool.false_or Option.map_some Option.map_none Option.bind_some Option.bind_none if_true if_false true_and and_true List.getD_cons_zero List.getD_cons_succ Bool.not_true Bool.not_false Bool.false_eq_true not_false_eq_true not_true_eq_false Option.isSome_some List.isEmpty_cons Nat.add_zero Nat.zero_add List.length_map List.replicate_succ List.replicate_zero Nat.sub_zero and_self implies_true forall_const Value.oneCell' imp_self Int.toNat_zero Int.toNat_one Int.toNat_natCast true_or or_true or_false false_or Array.toList_append List.size_toArray decide_true decide_false Nat.ble_eq Nat.beq_eq Bool.and_eq_true Int.natCast_add Int.cast_ofNat_Int Int.natCast_zero Int.natCast_one decide_eq_true_eq decide_eq_false_iff_not Bool.not_eq_true' Bool.not_eq_false' Bool.or_eq_true Bool.or_eq_false_iff Bool.and_eq_false_iff beq_self_eq_true
theorem xtI:True:=True.intro
structure XHid (p : Prop) : Prop where
 x:p
theorem xst {G G':Prop} (k:G') (h:XHid G'→G:=by intro h0;first|((try simp(etaStruct := .none)only[push_cast,zab,seval]);(try simp(disch:=omega)only[zaq,zbl,tdv,tmd]);(repeat with_reducible refine obA ?_);exact h0.x)|(have _h:XHid True:=h0;(try simp(etaStruct := .none)only[push_cast,zab,seval]);(try simp(disch:=omega)only[zaq,zbl,tdv,tmd]);(repeat with_reducible refine obA ?_))):G:=h ⟨k⟩
theorem xsu {G G':Prop} (k:G') (h:XHid G'→G:=by intro h0;first|((try simp(disch:=omega)only[zaq,zbl,tdv,tmd]);(repeat with_reducible refine obA ?_);exact h0.x)|(have _h:XHid True:=h0;(try simp(disch:=omega)only[zaq,zbl,tdv,tmd]);(repeat with_reducible refine obA ?_))):G:=h ⟨k⟩
theorem xhh {p q:Prop} (x:p) (h:p→q:=by intro h0;(simp only[xa,xb,xc,xd,xe,xf,xg,xh,xi,xj,Bool.not_true,Bool.not_false,xk,xl]at h0);exact h0):q:=h x
theorem xrz {P:Program} {rs:List ResultVar} {r:AV} {s:St} {φ : Prop} {xs:List AV} (h:zko P (look s.t) (zat s.h) rs=some (φ,xs)) (hw:Wk (cv [] (zat s.h) (z5p xs)) r:=by first|(refine Wk.of ?_;(try simp(etaStruct := .none)only[push_cast,zab,seval]);first|done|(simp[*];done)|(simp_all;done)|fail)|((try simp(etaStruct := .none)only[push_cast,zab,seval]);(try simp[*]);(try exact wkc))) (hφ : φ := by repeat' (first|exact trivial|exact rfl|refine⟨?_,?_⟩)):z7q P 0 rs r [] s:=zbe h hφ hw
section
variable {P : Program} {f : FuncId} {args args' : List AV} {h : Nat → Chunk} {m : Nat} {K : Eff → Prop} {r : AV} {c : Bool} {φ : Prop}
theorem caP (S:Spec P f args' [] r []) (k:K ⟨up [] m r,[],0⟩) (hw:WkL (cvL [] noC args) args':=by exact WkL.refl _):zu8 P f args h m K:=zct S hw k
theorem gcP (S:c=true→Spec P f args' [] r []) (k:K ⟨.opt c (up [] m r),[],0⟩) (hw:WkL (cvL [] noC args) args':=by exact WkL.refl _) (hφ : c=true → φ := by intro hc;(try simp(etaStruct := .none)only[push_cast,zab,seval]);(try simp_all)):zzb P c f args φ h m K:=zw9 S hw hφ k
theorem caM {hs hs':List Chunk} (ids:List Nat) (S:Spec P f args' hs r hs') (k:K ⟨up ids m r,zzu ids m 0 hs',hs'.length-ids.length⟩) (hw:WkL (cvL ids noC args) args':=by exact WkL.refl _) (hh:hs=ids.map (fun id=>cvC ids noC (h id)):=by rfl) (hnd:ids.Nodup:=by decide) (hal:∀id∈ids,h id ≠ .dead:=by simp[zcd]):zu8 P f args h m K:=zgd ids S hw hh hnd hal k
end
theorem cI {k:Nat} {b:Bool} {X Y:(Exit→St→Prop)→St→Prop} {Q:Exit→St→Prop} {s:St} {A B:Prop} (h1:A→X Q s) (h2:B→Y Q s) (ea:b=true→A:=by intro h0;first|exact xhh h0|exact h0) (eb:b=false→B:=by intro h0;first|exact xhh h0|exact h0):z7r k (.c (.v (.bool b))) X Y Q s:=zal (fun h=>h1 (ea h)) (fun h=>h2 (eb h))
theorem xz1 {G G' P1:Prop} (p1:P1) (k:G') (h:P1→XHid G'→G:=by intro z1 h0;first|((iterate 2((try simp(etaStruct := .none)only[push_cast,zab,seval,z1]);(try simp(disch:=omega)only[zaq,zbl,tdv,tmd]);(repeat with_reducible refine obA ?_)));exact h0.x)|(have _h:XHid True:=h0;(iterate 2((try simp(etaStruct := .none)only[push_cast,zab,seval,z1]);(try simp(disch:=omega)only[zaq,zbl,tdv,tmd]);(repeat with_reducible refine obA ?_))))):G:=h p1 ⟨k⟩
theorem xz2 {G G' P1 P2:Prop} (p1:P1) (p2:P2) (k:G') (h:P1→P2→XHid G'→G:=by intro z1 z2 h0;first|((iterate 2((try simp(etaStruct := .none)only[push_cast,zab,seval,z1,z2]);(try simp(disch:=omega)only[zaq,zbl,tdv,tmd]);(repeat with_reducible refine obA ?_)));exact h0.x)|(have _h:XHid True:=h0;(iterate 2((try simp(etaStruct := .none)only[push_cast,zab,seval,z1,z2]);(try simp(disch:=omega)only[zaq,zbl,tdv,tmd]);(repeat with_reducible refine obA ?_))))):G:=h p1 p2 ⟨k⟩
theorem xz3 {G G' P1 P2 P3:Prop} (p1:P1) (p2:P2) (p3:P3) (k:G') (h:P1→P2→P3→XHid G'→G:=by intro z1 z2 z3 h0;first|((iterate 2((try simp(etaStruct := .none)only[push_cast,zab,seval,z1,z2,z3]);(try simp(disch:=omega)only[zaq,zbl,tdv,tmd]);(repeat with_reducible refine obA ?_)));exact h0.x)|(have _h:XHid True:=h0;(iterate 2((try simp(etaStruct := .none)only[push_cast,zab,seval,z1,z2,z3]);(try simp(disch:=omega)only[zaq,zbl,tdv,tmd]);(repeat with_reducible refine obA ?_))))):G:=h p1 p2 p3 ⟨k⟩
theorem xz4 {G G' P1 P2 P3 P4:Prop} (p1:P1) (p2:P2) (p3:P3) (p4:P4) (k:G') (h:P1→P2→P3→P4→XHid G'→G:=by intro z1 z2 z3 z4 h0;first|((iterate 2((try simp(etaStruct := .none)only[push_cast,zab,seval,z1,z2,z3,z4]);(try simp(disch:=omega)only[zaq,zbl,tdv,tmd]);(repeat with_reducible refine obA ?_)));exact h0.x)|(have _h:XHid True:=h0;(iterate 2((try simp(etaStruct := .none)only[push_cast,zab,seval,z1,z2,z3,z4]);(try simp(disch:=omega)only[zaq,zbl,tdv,tmd]);(repeat with_reducible refine obA ?_))))):G:=h p1 p2 p3 p4 ⟨k⟩
theorem xz5 {G G' P1 P2 P3 P4 P5:Prop} (p1:P1) (p2:P2) (p3:P3) (p4:P4) (p5:P5) (k:G') (h:P1→P2→P3→P4→P5→XHid G'→G:=by intro z1 z2 z3 z4 z5 h0;first|((iterate 2((try simp(etaStruct := .none)only[push_cast,zab,seval,z1,z2,z3,z4,z5]);(try simp(disch:=omega)only[zaq,zbl,tdv,tmd]);(repeat with_reducible refine obA ?_)));exact h0.x)|(have _h:XHid True:=h0;(iterate 2((try simp(etaStruct := .none)only[push_cast,zab,seval,z1,z2,z3,z4,z5]);(try simp(disch:=omega)only[zaq,zbl,tdv,tmd]);(repeat with_reducible refine obA ?_))))):G:=h p1 p2 p3 p4 p5 ⟨k⟩
theorem xz6 {G G' P1 P2 P3 P4 P5 P6:Prop} (p1:P1) (p2:P2) (p3:P3) (p4:P4) (p5:P5) (p6:P6) (k:G') (h:P1→P2→P3→P4→P5→P6→XHid G'→G:=by intro z1 z2 z3 z4 z5 z6 h0;first|((iterate 2((try simp(etaStruct := .none)only[push_cast,zab,seval,z1,z2,z3,z4,z5,z6]);(try simp(disch:=omega)only[zaq,zbl,tdv,tmd]);(repeat with_reducible refine obA ?_)));exact h0.x)|(have _h:XHid True:=h0;(iterate 2((try simp(etaStruct := .none)only[push_cast,zab,seval,z1,z2,z3,z4,z5,z6]);(try simp(disch:=omega)only[zaq,zbl,tdv,tmd]);(repeat with_reducible refine obA ?_))))):G:=h p1 p2 p3 p4 p5 p6 ⟨k⟩
theorem xz7 {G G' P1 P2 P3 P4 P5 P6 P7:Prop} (p1:P1) (p2:P2) (p3:P3) (p4:P4) (p5:P5) (p6:P6) (p7:P7) (k:G') (h:P1→P2→P3→P4→P5→P6→P7→XHid G'→G:=by intro z1 z2 z3 z4 z5 z6 z7 h0;first|((iterate 2((try simp(etaStruct := .none)only[push_cast,zab,seval,z1,z2,z3,z4,z5,z6,z7]);(try simp(disch:=omega)only[zaq,zbl,tdv,tmd]);(repeat with_reducible refine obA ?_)));exact h0.x)|(have _h:XHid True:=h0;(iterate 2((try simp(etaStruct := .none)only[push_cast,zab,seval,z1,z2,z3,z4,z5,z6,z7]);(try simp(disch:=omega)only[zaq,zbl,tdv,tmd]);(repeat with_reducible refine obA ?_))))):G:=h p1 p2 p3 p4 p5 p6 p7 ⟨k⟩
theorem xz8 {G G' P1 P2 P3 P4 P5 P6 P7 P8:Prop} (p1:P1) (p2:P2) (p3:P3) (p4:P4) (p5:P5) (p6:P6) (p7:P7) (p8:P8) (k:G') (h:P1→P2→P3→P4→P5→P6→P7→P8→XHid G'→G:=by intro z1 z2 z3 z4 z5 z6 z7 z8 h0;first|((iterate 2((try simp(etaStruct := .none)only[push_cast,zab,seval,z1,z2,z3,z4,z5,z6,z7,z8]);(try simp(disch:=omega)only[zaq,zbl,tdv,tmd]);(repeat with_reducible refine obA ?_)));exact h0.x)|(have _h:XHid True:=h0;(iterate 2((try simp(etaStruct := .none)only[push_cast,zab,seval,z1,z2,z3,z4,z5,z6,z7,z8]);(try simp(disch:=omega)only[zaq,zbl,tdv,tmd]);(repeat with_reducible refine obA ?_))))):G:=h p1 p2 p3 p4 p5 p6 p7 p8 ⟨k⟩
end Go.Proofs.YtbapdgmcndgieaaGreat
namespace Go.Proofs.YtbapdgmcndgieaaGreat
set_option linter.all false
theorem mix:Tryz.prog.follows .mixedOrders=true:=by kernel_rfl
theorem spB {P : Program} {f : FuncId} {fn : Func} {c : Code} {args : List AV} {hs hs' : List Chunk} {r : AV} (hf : P.funcs[f]? = some fn) (nt : Nat) (rs : List ResultVar) (hrs : fn.results = rs.toArray) (h : awp P nt hs.length c (ygr P hs.length rs r hs') ⟨zqq 0 args, hsT 0 hs, hs.length⟩) (hmix : P.follows .mixedOrders = true := by exact mix) (hb : fn.body = some c := by rfl) (hn : (fn.name == "runtime.NumGoroutine") = false := by rfl) (hnt : nt = args.length + (fn.ntmps - args.length) := by rfl) (hle : hs.length ≤ hs'.length := by exact Nat.le_of_ble_eq_true rfl) : Spec P f args hs r hs' := z92 hf hb hn hmix nt hnt rs hrs hle h
theorem it3:z2k Tryz.prog 3=true:=by kernel_rfl
theorem ty3:ty Tryz.prog 3=some ⟨.int .i64,false,1,8,[.int .i64 0]⟩:=by kernel_rfl
theorem ty4:ty Tryz.prog 4=some ⟨.bool,false,1,1,[.bool false]⟩:=by kernel_rfl
theorem ty5:ty Tryz.prog 5=some ⟨.int .u8,false,1,1,[.int .u8 0]⟩:=by kernel_rfl
theorem ty9:ty Tryz.prog 9=some ⟨.str,false,1,16,[.string ByteArray.empty]⟩:=by kernel_rfl
theorem ykh:ty Tryz.prog 20=some ⟨.ifc,false,1,16,[.nilIface]⟩:=by kernel_rfl
theorem ykg:ty Tryz.prog 22=some ⟨.sl 3,false,1,24,[.slice none 0 0]⟩:=by kernel_rfl
theorem ykf:ty Tryz.prog 24=some ⟨.st [some (0,1,false),some (1,1,false),some (2,1,false)],true,3,40,[.int .i64 0,.int .i64 0,.slice none 0 0]⟩:=by kernel_rfl
theorem yke:ty Tryz.prog 25=some ⟨.sl 41,false,1,24,[.slice none 0 0]⟩:=by kernel_rfl
theorem ykd:ty Tryz.prog 26=some ⟨.sl 92,false,1,24,[.slice none 0 0]⟩:=by kernel_rfl
theorem ykc:ty Tryz.prog 28=some ⟨.st [some (0,3,true),some (3,1,false),some (4,1,false),some (5,1,false),some (6,1,false),some (7,1,false),some (8,1,false)],true,9,152,[.int .i64 0,.int .i64 0,.slice none 0 0,.slice none 0 0,.slice none 0 0,.slice none 0 0,.slice none 0 0,.int .i64 0,.int .i64 0]⟩:=by kernel_rfl
theorem ykb:ty Tryz.prog 29=some ⟨.sl 66,false,1,24,[.slice none 0 0]⟩:=by kernel_rfl
theorem yka:ty Tryz.prog 31=some ⟨.st [some (0,9,true),some (9,1,false)],true,10,176,[.int .i64 0,.int .i64 0,.slice none 0 0,.slice none 0 0,.slice none 0 0,.slice none 0 0,.slice none 0 0,.int .i64 0,.int .i64 0,.slice none 0 0]⟩:=by kernel_rfl
theorem yj9:ty Tryz.prog 33=some ⟨.sl 68,false,1,24,[.slice none 0 0]⟩:=by kernel_rfl
theorem yj8:ty Tryz.prog 34=some ⟨.int .u32,false,1,4,[.int .u32 0]⟩:=by kernel_rfl
theorem yj7:ty Tryz.prog 35=some ⟨.sl 34,false,1,24,[.slice none 0 0]⟩:=by kernel_rfl
theorem yj6:ty Tryz.prog 37=some ⟨.st [some (0,1,false),some (1,1,false)],true,2,32,[.int .u32 0,.slice none 0 0]⟩:=by kernel_rfl
theorem yj5:ty Tryz.prog 39=some ⟨.st [some (0,10,true),some (10,1,false),some (11,2,true),some (13,1,false)],true,14,240,[.int .i64 0,.int .i64 0,.slice none 0 0,.slice none 0 0,.slice none 0 0,.slice none 0 0,.slice none 0 0,.int .i64 0,.int .i64 0,.slice none 0 0,.slice none 0 0,.int .u32 0,.slice none 0 0,.int .i64 0]⟩:=by kernel_rfl
theorem yj4:ty Tryz.prog 41=some ⟨.st [some (0,1,false),some (1,1,false)],true,2,16,[.int .i64 0,.int .i64 0]⟩:=by kernel_rfl
theorem yj3:ty Tryz.prog 43=some ⟨.st [some (0,1,false),some (1,1,false),some (2,1,false),some (3,2,true),some (5,1,false)],true,6,48,[.int .i64 0,.int .i64 0,.int .i64 0,.int .i64 0,.int .i64 0,.int .i64 0]⟩:=by kernel_rfl
theorem yj2:ty Tryz.prog 45=some ⟨.st [some (0,1,false),some (1,6,true),some (7,1,false),some (8,1,false)],true,9,72,[.int .i64 0,.int .i64 0,.int .i64 0,.int .i64 0,.int .i64 0,.int .i64 0,.int .i64 0,.int .i64 0,.int .i64 0]⟩:=by kernel_rfl
theorem ykp:z2k Tryz.prog 46=true:=by kernel_rfl
theorem yj1:ty Tryz.prog 46=some ⟨.int .i64,false,1,8,[.int .i64 0]⟩:=by kernel_rfl
theorem yj0:ty Tryz.prog 59=some ⟨.ptr 39,false,1,8,[.pointer none]⟩:=by kernel_rfl
theorem yjz:ty Tryz.prog 66=some ⟨.sl 43,false,1,24,[.slice none 0 0]⟩:=by kernel_rfl
theorem yjy:ty Tryz.prog 68=some ⟨.st [some (0,1,false),some (1,1,false),some (2,1,false)],true,3,40,[.slice none 0 0,.int .i64 0,.bool false]⟩:=by kernel_rfl
theorem yjx:ty Tryz.prog 77=some ⟨.sl 109,false,1,24,[.slice none 0 0]⟩:=by kernel_rfl
theorem yjw:ty Tryz.prog 80=some ⟨.other,false,1,8,[.nilFunc]⟩:=by kernel_rfl
theorem yjv:ty Tryz.prog 83=some ⟨.arr 3 46,true,3,24,[.int .i64 0,.int .i64 0,.int .i64 0]⟩:=by kernel_rfl
theorem yju:ty Tryz.prog 92=some ⟨.st [some (0,1,false),some (1,1,false),some (2,1,false),some (3,2,true),some (5,1,false),some (6,1,false)],true,7,56,[.int .i64 0,.int .i64 0,.int .i64 0,.int .i64 0,.int .i64 0,.int .i64 0,.int .i64 0]⟩:=by kernel_rfl
theorem yh2:ty Tryz.prog 101=some ⟨.sl 4,false,1,24,[.slice none 0 0]⟩:=by kernel_rfl
theorem yh1:ty Tryz.prog 103=some ⟨.st [some (0,1,false),some (1,1,false),some (2,1,false)],true,3,72,[.slice none 0 0,.slice none 0 0,.slice none 0 0]⟩:=by kernel_rfl
theorem yh0:ty Tryz.prog 109=some ⟨.int .u64,false,1,8,[.int .u64 0]⟩:=by kernel_rfl
theorem yhz:ty Tryz.prog 120=some ⟨.st [some (0,1,false),some (1,1,false),some (2,1,false),some (3,1,false)],true,4,32,[.int .i64 0,.int .i64 0,.int .i64 0,.int .i64 0]⟩:=by kernel_rfl
theorem yhy:ty Tryz.prog 123=some ⟨.other,false,1,8,[.nilFunc]⟩:=by kernel_rfl
theorem yhx:ty Tryz.prog 125=some ⟨.int .u64,false,1,8,[.int .u64 0]⟩:=by kernel_rfl
theorem yhw:ty Tryz.prog 128=some ⟨.other,false,1,8,[.nilFunc]⟩:=by kernel_rfl
theorem yhv:ty Tryz.prog 130=some ⟨.other,false,1,8,[.nilFunc]⟩:=by kernel_rfl
theorem yhu:ty Tryz.prog 137=some ⟨.ptr 37,false,1,8,[.pointer none]⟩:=by kernel_rfl
theorem yht:ty Tryz.prog 139=some ⟨.other,false,1,8,[.nilFunc]⟩:=by kernel_rfl
theorem yhs:ty Tryz.prog 141=some ⟨.sl 187,false,1,24,[.slice none 0 0]⟩:=by kernel_rfl
theorem yhr:ty Tryz.prog 143=some ⟨.sl 189,false,1,24,[.slice none 0 0]⟩:=by kernel_rfl
theorem yhq:ty Tryz.prog 145=some ⟨.sl 191,false,1,24,[.slice none 0 0]⟩:=by kernel_rfl
theorem yhp:ty Tryz.prog 165=some ⟨.sl 120,false,1,24,[.slice none 0 0]⟩:=by kernel_rfl
theorem yho:ty Tryz.prog 168=some ⟨.other,false,1,8,[.nilFunc]⟩:=by kernel_rfl
theorem yhn:ty Tryz.prog 170=some ⟨.other,false,1,8,[.nilFunc]⟩:=by kernel_rfl
theorem yhm:ty Tryz.prog 175=some ⟨.ptr 178,false,1,8,[.pointer none]⟩:=by kernel_rfl
theorem yhl:ty Tryz.prog 176=some ⟨.sl 5,false,1,24,[.slice none 0 0]⟩:=by kernel_rfl
theorem yhk:ty Tryz.prog 178=some ⟨.st [some (0,1,false),some (1,1,false)],true,2,32,[.pointer none,.slice none 0 0]⟩:=by kernel_rfl
theorem yhj:ty Tryz.prog 187=some ⟨.st [some (0,1,false),some (1,1,false)],true,2,16,[.int .i64 0,.int .i64 0]⟩:=by kernel_rfl
theorem yhi:ty Tryz.prog 189=some ⟨.st [some (0,1,false),some (1,2,true)],true,3,24,[.int .i64 0,.int .i64 0,.int .i64 0]⟩:=by kernel_rfl
theorem yhh:ty Tryz.prog 191=some ⟨.st [some (0,1,false),some (1,1,false),some (2,2,true),some (4,1,false)],true,5,40,[.int .i64 0,.int .i64 0,.int .i64 0,.int .i64 0,.int .i64 0]⟩:=by kernel_rfl
theorem yhg:ty Tryz.prog 196=some ⟨.other,false,1,8,[.nilFunc]⟩:=by kernel_rfl
theorem yhf:ty Tryz.prog 200=some ⟨.mp 3 3,false,1,8,[.map none]⟩:=by kernel_rfl
theorem yhe:ty Tryz.prog 209=some ⟨.st [some (0,1,false),some (1,1,false),some (2,1,false)],true,3,72,[.slice none 0 0,.slice none 0 0,.slice none 0 0]⟩:=by kernel_rfl
theorem yhd:ty Tryz.prog 213=some ⟨.st [some (0,9,true)],true,9,152,[.int .i64 0,.int .i64 0,.slice none 0 0,.slice none 0 0,.slice none 0 0,.slice none 0 0,.slice none 0 0,.int .i64 0,.int .i64 0]⟩:=by kernel_rfl
theorem yhc:ty Tryz.prog 216=some ⟨.ptr 5,false,1,8,[.pointer none]⟩:=by kernel_rfl
theorem yhb:ty Tryz.prog 222=some ⟨.other,false,1,8,[.nilFunc]⟩:=by kernel_rfl
theorem yha:ty Tryz.prog 224=some ⟨.other,false,1,8,[.nilFunc]⟩:=by kernel_rfl
theorem yg9:ty Tryz.prog 237=some ⟨.mp 41 3,false,1,8,[.map none]⟩:=by kernel_rfl
theorem yg8:ty Tryz.prog 238=some ⟨.sl 77,false,1,24,[.slice none 0 0]⟩:=by kernel_rfl
theorem yg7:ty Tryz.prog 241=some ⟨.ptr 92,false,1,8,[.pointer none]⟩:=by kernel_rfl
theorem yg6:ty Tryz.prog 243=some ⟨.other,false,1,8,[.nilFunc]⟩:=by kernel_rfl
theorem yg5:ty Tryz.prog 244=some ⟨.ptr 213,false,1,8,[.pointer none]⟩:=by kernel_rfl
theorem yg4:ty Tryz.prog 251=some ⟨.arr 2 41,true,4,32,[.int .i64 0,.int .i64 0,.int .i64 0,.int .i64 0]⟩:=by kernel_rfl
theorem yg3:ty Tryz.prog 256=some ⟨.ptr 265,false,1,8,[.pointer none]⟩:=by kernel_rfl
theorem yg2:ty Tryz.prog 260=some ⟨.arr 4 41,true,8,64,[.int .i64 0,.int .i64 0,.int .i64 0,.int .i64 0,.int .i64 0,.int .i64 0,.int .i64 0,.int .i64 0]⟩:=by kernel_rfl
theorem yg1:ty Tryz.prog 263=some ⟨.sl 281,false,1,24,[.slice none 0 0]⟩:=by kernel_rfl
theorem yg0:ty Tryz.prog 265=some ⟨.st [some (0,3,true),some (3,2,true),some (5,1,false),some (6,1,false)],true,7,104,[.int .i64 0,.int .i64 0,.slice none 0 0,.int .i64 0,.int .i64 0,.slice none 0 0,.slice none 0 0]⟩:=by kernel_rfl
theorem ygz:ty Tryz.prog 279=some ⟨.ptr 263,false,1,8,[.pointer none]⟩:=by kernel_rfl
theorem ygy:ty Tryz.prog 281=some ⟨.st [some (0,2,true),some (2,1,false),some (3,1,false)],true,4,32,[.int .i64 0,.int .i64 0,.int .i64 0,.int .i64 0]⟩:=by kernel_rfl
theorem ygx:ty Tryz.prog 290=some ⟨.ifc,false,1,16,[.nilIface]⟩:=by kernel_rfl
theorem ykv:zd8 Tryz.prog 9 41=some [0,0]:=by kernel_rfl
theorem yk1:yga Tryz.prog 41=true:=by kernel_rfl
theorem yku:zd8 Tryz.prog 9 43=some [0,0,0,0,0,0]:=by kernel_rfl
theorem yk0:yga Tryz.prog 43=true:=by kernel_rfl
theorem ykt:zd8 Tryz.prog 9 92=some [0,0,0,0,0,0,0]:=by kernel_rfl
theorem ykz:yga Tryz.prog 92=true:=by kernel_rfl
theorem zue : zr6 Tryz.prog 279 "Len" = some (208, false, some 263) := by kernel_rfl
theorem zr9 : zr6 Tryz.prog 279 "Less" = some (233, false, some 263) := by kernel_rfl
theorem zud : zr6 Tryz.prog 279 "Pop" = some (235, true, some 263) := by kernel_rfl
theorem zr8 : zr6 Tryz.prog 279 "Push" = some (236, true, some 263) := by kernel_rfl
theorem zr7 : zr6 Tryz.prog 279 "Swap" = some (234, false, some 263) := by kernel_rfl
attribute [push_cast] it3 ty3 ty4 ty5 ty9 ykh ykg ykf yke ykd ykc ykb yka yj9 yj8 yj7 yj6 yj5 yj4 yj3 yj2 ykp yj1 yj0 yjz yjy yjx yjw yjv yju yh2 yh1 yh0 yhz yhy yhx yhw yhv yhu yht yhs yhr yhq yhp yho yhn yhm yhl yhk yhj yhi yhh yhg yhf yhe yhd yhc yhb yha yg9 yg8 yg7 yg6 yg5 yg4 yg3 yg2 yg1 yg0 ygz ygy ygx ykv yk1 yku yk0 ykt ykz zue zr9 zud zr8 zr7
end Go.Proofs.YtbapdgmcndgieaaGreat
namespace Go.Proofs.YtbapdgmcndgieaaGreat
set_option linter.all false
open Go.RowKit
abbrev zio (n:Int):Prop := -9223372036854775808≤n∧n≤9223372036854775807
abbrev pI (n:Int):PV := .v (.int .i64 n)
abbrev pB (b:Bool):PV := .v (.bool b)
def zac (n:Int):List PV := [pI n]
theorem zak (n:Int):zac n = [pI n]:=rfl
def zgl (n:Nat):List PV := [.v (.int .u64 n)]
theorem z7t (n:Nat):zgl n = [.v (.int .u64 n)]:=rfl
def ze2 (b:Bool):List PV := [pB b]
theorem zm4 (b:Bool):ze2 b = [pB b]:=rfl
def ykj (s:ByteArray):List PV := [.v (.string s)]
structure Cel where
 x:Int
 y:Int
 deriving DecidableEq, Inhabited
def zaz (c:Cel):List PV := [pI c.x,pI c.y]
theorem zao (c:Cel):zaz c = [pI c.x,pI c.y]:=rfl
abbrev zem (c:Cel):AV := .agg [I .i64 c.x,I .i64 c.y]
structure Fld where
 w:Int
 h:Int
 p:List Int
 deriving DecidableEq, Inhabited
abbrev znh (f:Fld):AV := .agg [I .i64 f.w,I .i64 f.h,.c (.sl 1 (f.p.map zac))]
structure Trp where
 id:Int
 owner:Int
 kind:Int
 c:Cel
 life:Int
 load:Int
 deriving DecidableEq, Inhabited
def zaw (t:Trp):List PV := [pI t.id,pI t.owner,pI t.kind,pI t.c.x,pI t.c.y,pI t.life,pI t.load]
theorem zae (t:Trp):zaw t = [pI t.id,pI t.owner,pI t.kind,pI t.c.x,pI t.c.y,pI t.life,pI t.load]:=rfl
structure Wld where
 f:Fld
 bases:List Cel
 stocks:List Int
 mines:List Int
 troops:List Trp
 next:Int
 now:Int
 deriving DecidableEq, Inhabited
abbrev zbk (w:Wld):AV := .agg [I .i64 w.f.w,I .i64 w.f.h,.c (.sl 1 (w.f.p.map zac)),.c (.sl 2 (w.bases.map zaz)),.c (.sl 1 (w.stocks.map zac)),.c (.sl 1 (w.mines.map zac)),.c (.sl 7 (w.troops.map zaw)),I .i64 w.next,I .i64 w.now]
structure Ord where
 by_:Int
 kind:Int
 who:Int
 c:Cel
 what:Int
 deriving DecidableEq, Inhabited
def zch (o:Ord):List PV := [pI o.by_,pI o.kind,pI o.who,pI o.c.x,pI o.c.y,pI o.what]
theorem za0 (o:Ord):zch o = [pI o.by_,pI o.kind,pI o.who,pI o.c.x,pI o.c.y,pI o.what]:=rfl
abbrev zic (o:Ord):AV := .agg [I .i64 o.by_,I .i64 o.kind,I .i64 o.who,I .i64 o.c.x,I .i64 o.c.y,I .i64 o.what]
theorem zaa {α : Type} [Inhabited α] (f : α → List PV) (l:List α) (i:Nat) (h:i<l.length):(l.map f).getD i []=f (l.getD i default):=by
 simp[h]
theorem gd {α : Type} [Inhabited α] {l:List α} {k:Nat} (h:k<l.length):∀(f : α → List PV),(l.map f).getD k []=f (l.getD k default):=fun f=>zaa f l k h
theorem zad {α : Type} [Inhabited α] (l:List α) (i:Nat) (h:i<l.length):l.getD i default=l[i]:=by simp[h]
theorem zav {α : Type} [Inhabited α] (l:List α) (k:Nat) (h:k<l.length):l.take (k+1)=l.take k ++ [l.getD k default]:=by rw[List.take_succ_eq_append_getElem h,zad _ _ h]
def zgs {α : Type} (f : α → α) (i:Nat) (g:List α):List α := (g.take i).map f++g.drop i
theorem zcp {α : Type} (f : α → α) (i:Nat) (g:List α):(zgs f i g).length=g.length:=by simp[zgs];omega
theorem z1d {α : Type} (f : α → α) (g:List α):zgs f 0 g=g:=by simp[zgs]
theorem zbs {α : Type} (f : α → α) (g:List α):zgs f g.length g=g.map f:=by simp[zgs]
theorem zyg {α : Type} [Inhabited α] (f : α → α) (i:Nat) (g:List α) (h:i<g.length):(zgs f i g).getD i default=g.getD i default:=by
 rw[zad _ _ (by rw[zcp];exact h),zad _ _ h]
 unfold zgs
 rw[List.getElem_append_right (by simp;omega)]
 simp[Nat.min_eq_left (Nat.le_of_lt h)]
theorem zhd {α : Type} [Inhabited α] (f : α → α) (i:Nat) (g:List α) (h:i<g.length):zgs f (i+1) g=(zgs f i g).set i (f (g.getD i default)):=by
 unfold zgs
 rw[List.set_append_right _ _ (by simp;omega),zad _ _ h]
 rw[List.length_map,List.length_take,Nat.min_eq_left (Nat.le_of_lt h),Nat.sub_self,List.drop_eq_getElem_cons h,List.set_cons_zero,List.take_succ_eq_append_getElem h,List.map_append,List.append_assoc]
 rfl
theorem zjx {α : Type} [Inhabited α] (f : α → α) (i:Nat) (g:List α) (h:i<g.length) (e:f (g.getD i default)=g.getD i default):zgs f (i+1) g=zgs f i g:=by
 unfold zgs
 rw[List.take_succ_eq_append_getElem h,List.map_append,List.append_assoc,List.drop_eq_getElem_cons h]
 rw[zad _ _ h]at e
 simp[e]
theorem za9 {α : Type} [Inhabited α] (l:List α) (i:Nat) (h:i<l.length):l.getD i default∈l:=by rw[zad _ _ h];exact List.getElem_mem h
section
variable {α : Type} [Inhabited α] (key : α → Int)
def zdp (l:List α) (i j:Nat):List α := (l.set i (l.getD j default)).set j (l.getD i default)
theorem za3 (l:List α) (i j:Nat):(zdp l i j).length=l.length:=by simp[zdp]
theorem zcl (l:List α) {i j k:Nat} (hi:i<l.length) (hj:j<l.length) (hk:k<l.length):(zdp l i j).getD k default=if k=j then l.getD i default else if k=i then l.getD j default else l.getD k default:=by
 unfold zdp
 rw[zad _ _ (by simpa using hk),List.getElem_set,List.getElem_set]
 by_cases h1:j=k
 ·rw[if_pos h1,if_pos h1.symm]
 ·rw[if_neg h1,if_neg (Ne.symm h1)]
  by_cases h2:i=k
  ·rw[if_pos h2,if_pos h2.symm]
  ·rw[if_neg h2,if_neg (Ne.symm h2),zad _ _ hk]
theorem mem_getD {l:List α} {x : α} : x∈l↔∃k,k<l.length∧l.getD k default=x:=by
 constructor
 ·intro h
  obtain⟨k,hk,e⟩:=List.getElem_of_mem h
  exact⟨k,hk,by rw[zad _ _ hk];exact e⟩
 ·rintro⟨k,hk,rfl⟩
  exact za9 l k hk
theorem zlk (l:List α) {i j:Nat} (hi:i<l.length) (hj:j<l.length) (x : α):x∈zdp l i j↔x∈l:=by
 rw[mem_getD,mem_getD,za3]
 constructor
 ·rintro⟨k,hk,e⟩
  rw[zcl l hi hj hk]at e
  split at e
  ·exact⟨i,hi,e⟩
  ·split at e
   ·exact⟨j,hj,e⟩
   ·exact⟨k,hk,e⟩
 ·rintro⟨k,hk,e⟩
  by_cases h1:k=i
  ·subst h1
   refine⟨j,hj,?_⟩
   rw[zcl l hi hj hj,if_pos rfl];exact e
  ·by_cases h2:k=j
   ·subst h2
    refine⟨i,hi,?_⟩
    rw[zcl l hi hj hi]
    by_cases h3:i=k
    ·exact absurd h3.symm h1
    ·rw[if_neg h3,if_pos rfl];exact e
   ·exact⟨k,hk,by rw[zcl l hi hj hk,if_neg h2,if_neg h1];exact e⟩
def par (k:Nat):Nat:=(k-1)/2
theorem zfb (j:Nat):((j:Int)-1).tdiv 2=((par j:Nat):Int):=by
 cases j with
 | zero=>rfl
 | succ k =>
  rw[show ((k+1:Nat):Int)-1=(k:Int)from by omega,Int.tdiv_eq_ediv_of_nonneg (by omega)]
  simp[par]
def znn (l:List α) (n:Nat):Prop:=∀k,0<k→k<n→key (l.getD (par k) default)≤key (l.getD k default)
def hup (l:List α) (j:Nat):List α := if par j=j∨¬key (l.getD j default)<key (l.getD (par j) default)then l else hup (zdp l (par j) j) (par j)
termination_by j
decreasing_by simp only[par,not_or]at *;omega
theorem yb3 (l:List α) (j:Nat):(hup key l j).length=l.length:=by
 induction j using Nat.strongRecOn generalizing l with
 | _ j ih =>
  rw[hup]
  split
  ·rfl
  ·rename_i h
   rw[ih (par j) (by simp only[par,not_or]at *;omega),za3]
theorem yb2 (l:List α) (j:Nat) (hj:j<l.length) (x : α):x∈hup key l j↔x∈l:=by
 induction j using Nat.strongRecOn generalizing l with
 | _ j ih =>
  rw[hup]
  split
  ·rfl
  ·rename_i h
   have:par j<j:=by simp only[par,not_or]at *;omega
   rw[ih (par j) this _ (by rw[za3];omega),zlk _ (by omega) hj]
theorem z6g (l:List α) (j:Nat) (hj:j<l.length) (h1:∀k,0<k→k<l.length→k≠j→key (l.getD (par k) default)≤key (l.getD k default))
 (h2:0<j→∀k,0<k→k<l.length→par k=j→key (l.getD (par j) default)≤key (l.getD k default)):znn key (hup key l j) l.length:=by
 induction j using Nat.strongRecOn generalizing l with
 | _ j ih =>
  rw[hup]
  split
  ·rename_i h
   intro k hk hkl
   by_cases e:k=j
   ·subst e
    rcases h with h|h
    ·simp only[par]at h;omega
    ·omega
   ·exact h1 k hk hkl e
  ·rename_i h
   rw[not_or,Decidable.not_not]at h
   obtain⟨e1,e2⟩:=h
   have lt:par j<j:=by simp only[par]at *;omega
   have hi:par j<l.length:=by omega
   have G:∀k,k<l.length→(zdp l (par j) j).getD k default=if k=j then l.getD (par j) default else if k=par j then l.getD j default else l.getD k default:=fun k hk=>zcl l hi hj hk
   have:=ih (par j) lt (zdp l (par j) j) (by rw[za3];exact hi) (fun k hk hkl hne=>by
    rw[za3]at hkl
    rw[G k hkl,G (par k) (by simp only[par]at *;omega)]
    by_cases a:k=j
    ·subst a
     rw[if_neg (by omega),if_pos rfl,if_pos rfl];omega
    ·rw[if_neg a,if_neg hne]
     by_cases b:par k=j
     ·rw[if_pos b]
      exact h2 (by omega) k hk hkl b
     ·rw[if_neg b]
      by_cases c:par k=par j
      ·rw[if_pos c]
       have:=h1 k hk hkl a
       rw[c]at this;omega
      ·rw[if_neg c];exact h1 k hk hkl a) (fun hp k hk hkl hpk=>by
    rw[za3]at hkl
    have q1:par (par j)<par j:=by simp only[par]at *;omega
    have q2:=h1 (par j) hp hi (by omega)
    rw[G k hkl,G _ (by omega),if_neg (by omega),if_neg (by omega)]
    by_cases a:k=j
    ·rw[if_pos a];exact q2
    ·have:k≠par j:=by intro e;rw[e]at hpk;omega
     rw[if_neg a,if_neg this]
     have:=h1 k hk hkl a
     rw[hpk]at this;omega)
   rwa [za3]at this
def kid (l:List α) (i n:Nat):Nat:=if 2*i+2<n∧key (l.getD (2*i+2) default)<key (l.getD (2*i+1) default)then 2*i+2 else 2*i+1
theorem zsj (l:List α) (i n:Nat):i<kid key l i n:=by unfold kid;split<;>omega
theorem z2e (l:List α) (i n:Nat) (h:2*i+1<n):kid key l i n<n:=by unfold kid;split<;>omega
def hdn (l:List α) (i n:Nat):List α := if n≤2*i+1∨¬key (l.getD (kid key l i n) default)<key (l.getD i default)then l else hdn (zdp l i (kid key l i n)) (kid key l i n) n
termination_by n-i
decreasing_by
 rename_i h
 have h1:=zsj key l i n
 rw[not_or]at h
 omega
theorem zp3 (l:List α) (i n:Nat):(hdn key l i n).length=l.length:=by
 induction hm:n-i using Nat.strongRecOn generalizing l i with
 | _ m ih =>
  rw[hdn]
  split
  ·rfl
  ·rename_i h
   have h1:=zsj key l i n
   rw[ih _ (by omega) _ _ rfl,za3]
theorem yb7 (l:List α) (i n:Nat) (hn:n≤l.length) (x : α):x∈hdn key l i n↔x∈l:=by
 induction hm:n-i using Nat.strongRecOn generalizing l i with
 | _ m ih =>
  rw[hdn]
  split
  ·rfl
  ·rename_i h
   have h1:=zsj key l i n
   have h2:=z2e key l i n (by omega)
   rw[ih _ (by omega) _ _ (by rw[za3];exact hn) rfl,zlk _ (by omega) (by omega)]
theorem yb6 (l:List α) (i n k:Nat) (hn:n≤l.length) (hk:n≤k) (hkl:k<l.length):(hdn key l i n).getD k default=l.getD k default:=by
 induction hm:n-i using Nat.strongRecOn generalizing l i with
 | _ m ih =>
  rw[hdn]
  split
  ·rfl
  ·rename_i h
   have h1:=zsj key l i n
   have h2:=z2e key l i n (by omega)
   rw[ih _ (by omega) _ _ (by rw[za3];exact hn) (by rw[za3];exact hkl) rfl,zcl _ (by omega) (by omega) hkl,if_neg (by omega),if_neg (by omega)]
theorem z6n (l:List α) (i n:Nat) (hn:n≤l.length) (h1:∀k,0<k→k<n→par k≠i→key (l.getD (par k) default)≤key (l.getD k default))
 (h2:0<i→∀k,0<k→k<n→par k=i→key (l.getD (par i) default)≤key (l.getD k default)):znn key (hdn key l i n) n:=by
 induction hm:n-i using Nat.strongRecOn generalizing l i with
 | _ m ih =>
  have kd:∀k,0<k→k<n→par k=i→key (l.getD (kid key l i n) default)≤key (l.getD k default):=by
   intro k hk hkn hp
   have:k=2*i+1∨k=2*i+2:=by simp only[par]at hp;omega
   unfold kid
   rcases this with e|e
   ·subst e
    split
    ·rename_i h;omega
    ·exact Int.le_refl _
   ·subst e
    split
    ·exact Int.le_refl _
    ·rename_i h
     by_cases h3:key (l.getD (2*i+2) default)<key (l.getD (2*i+1) default)
     ·exact absurd ⟨hkn,h3⟩ h
     ·omega
  rw[hdn]
  split
  ·rename_i h
   intro k hk hkn
   by_cases e:par k=i
   ·rcases h with h|h
    ·simp only[par]at e;omega
    ·have:=kd k hk hkn e
     rw[e];omega
   ·exact h1 k hk hkn e
  ·rename_i h
   rw[not_or,Decidable.not_not]at h
   have g1:=zsj key l i n
   have g2:=z2e key l i n (by omega)
   have gp:par (kid key l i n)=i:=by unfold kid;simp only[par];split<;>omega
   generalize kid key l i n=j at *
   have G:∀k,k<l.length→(zdp l i j).getD k default=if k=j then l.getD i default else if k=i then l.getD j default else l.getD k default:=fun k hk=>zcl l (by omega) (by omega) hk
   refine ih (n-j) (by omega) (zdp l i j) j (by rw[za3];exact hn) (fun k hk hkn hpk => ?_) (fun hj k hk hkn hpk => ?_) rfl
   ·have hp:par k<k:=by simp only[par]at *;omega
    rw[G k (by omega),G (par k) (by omega)]
    by_cases a:k=j
    ·subst a
     rw[if_pos rfl,if_neg (by omega),if_pos gp];omega
    ·rw[if_neg a,if_neg hpk]
     by_cases b:k=i
     ·subst b
      rw[if_pos rfl,if_neg (by omega)]
      have:=h2 hk j (by omega) (by omega) gp
      exact this
     ·rw[if_neg b]
      by_cases c:par k=i
      ·rw[if_pos c];exact kd k hk hkn c
      ·rw[if_neg c];exact h1 k hk hkn c
   ·have hp:par k<k:=by simp only[par]at *;omega
    rw[G k (by omega),if_neg (by omega),if_neg (by omega),gp,G i (by omega),if_neg (by omega),if_pos rfl]
    have:=h1 k hk hkn (by omega)
    rw[hpk]at this;exact this
theorem zp2 {l:List α} {n:Nat} (h:znn key l n):∀k,k<n→key (l.getD 0 default)≤key (l.getD k default):=by
 intro k
 induction k using Nat.strongRecOn with
 | _ k ih =>
  intro hk
  rcases Nat.eq_zero_or_pos k with e|e
  ·subst e;exact Int.le_refl _
  ·have:=ih (par k) (by simp only[par];omega) (by simp only[par];omega)
   have:=h k e hk
   omega
def zed (l:List α) (x : α):List α := hup key (l ++ [x]) l.length
def zgi (l:List α):List α := (hdn key (zdp l 0 (l.length-1)) 0 (l.length-1)).take (l.length-1)
theorem zmr (l:List α) (x : α) (k:Nat) (h:k<l.length):(l ++ [x]).getD k default=l.getD k default:=by
 rw[zad _ _ (by simp;omega),zad _ _ h,List.getElem_append_left h]
theorem zmp (l:List α) (x : α):(zed key l x).length=l.length+1:=by unfold zed;rw[yb3];simp
theorem zd5 (l:List α) (x y : α):y∈zed key l x↔y∈l∨y=x:=by
 unfold zed
 rw[yb2 _ _ _ (by simp)];simp
theorem zj6 (l:List α) (x : α) (h:znn key l l.length):znn key (zed key l x) (zed key l x).length:=by
 rw[zmp]
 have:=z6g key (l ++ [x]) l.length (by simp) (fun k hk hkl hne=>by
  simp only[List.length_append,List.length_cons,List.length_nil]at hkl
  have:par k<k:=by simp only[par]at *;omega
  rw[zmr _ _ _ (by omega),zmr _ _ _ (by omega)];exact h k hk (by omega)) (fun _ k hk hkl hp=>by
  simp only[List.length_append,List.length_cons,List.length_nil,par]at *;omega)
 simpa[zed]using this
theorem zra (l:List α) (n k:Nat) (h:k<n):(l.take n).getD k default=l.getD k default:=by
 simp only[List.getD_eq_getElem?_getD,List.getElem?_take,if_pos h]
theorem zhj (l:List α):(zgi key l).length=l.length-1:=by unfold zgi;rw[List.length_take,zp3,za3];omega
theorem zjc (l:List α) (hl:0<l.length) (h:znn key l l.length):znn key (zgi key l) (zgi key l).length:=by
 rw[zhj]
 have:=z6n key (zdp l 0 (l.length-1)) 0 (l.length-1) (by rw[za3];omega) (fun k hk hkn hp=>by
  have q:par k<k:=by simp only[par]at *;omega
  rw[zcl _ (by omega) (by omega) (by omega),zcl _ (by omega) (by omega) (by omega),if_neg (by omega),if_neg (by omega),if_neg (by omega),if_neg (by omega)]
  exact h k hk (by omega)) (fun h0=>absurd h0 (Nat.lt_irrefl _))
 intro k hk hkn
 unfold zgi
 rw[zra _ _ _ hkn,zra _ _ _ (by simp only[par]at *;omega)]
 exact this k hk hkn
theorem zsm (l:List α) (hl:0<l.length):(hdn key (zdp l 0 (l.length-1)) 0 (l.length-1)).getD (l.length-1) default=l.getD 0 default:=by
 rw[yb6 _ _ _ _ _ (by rw[za3];omega) (Nat.le_refl _) (by rw[za3];omega),zcl _ hl (by omega) (by omega),if_pos rfl]
theorem zf7 (l:List α) (hl:0<l.length) (x : α):x∈l↔x=l.getD 0 default∨x∈zgi key l:=by
 have e:hdn key (zdp l 0 (l.length-1)) 0 (l.length-1)=zgi key l ++ [l.getD 0 default]:=by
  have h1:=zsm key l hl
  have h2:(hdn key (zdp l 0 (l.length-1)) 0 (l.length-1)).length=l.length-1+1:=by rw[zp3,za3];omega
  unfold zgi
  rw[←h1,←zav _ _ (by omega),List.take_of_length_le (by omega)]
 rw[←zlk l hl (show l.length-1<l.length by omega),←yb7 key _ 0 (l.length-1) (by rw[za3];omega),e]
 simp[or_comm]
end
def Adj (W p n:Nat):Prop:=n+W=p∨(n+1=p∧0<p % W)∨(p+1=n∧0<n % W)∨p+W=n
theorem Adj.symm {W p n:Nat} (h:Adj W p n):Adj W n p:=by
 rcases h with h|⟨h,h'⟩|⟨h,h'⟩|h
 ·exact .inr (.inr (.inr h))
 ·exact .inr (.inr (.inl ⟨h,h'⟩))
 ·exact .inr (.inl ⟨h,h'⟩)
 ·exact .inl h
theorem Adj.ne {W p n:Nat} (hW:0<W) (h:Adj W p n):p≠n:=by
 rcases h with h|⟨h,h'⟩|⟨h,h'⟩|h<;>omega
def zdd (W H p:Nat):List Nat:=(if 0<p/W then [p-W]else [])++(if 0<p % W then [p-1]else [])++(if p % W+1<W then [p+1]else [])++(if p/W+1<H then [p+W]else [])
theorem zu5 (W H p:Nat):(zdd W H p).length≤4:=by
 unfold zdd
 simp only[List.length_append]
 split<;>split<;>split<;>split<;>simp
theorem zvr {W:Nat} (hW:0<W) (p:Nat):(p+1) % W=if p % W+1=W then 0 else p % W+1:=by
 have h1:=Nat.div_add_mod p W
 have h2:=Nat.mod_lt p hW
 have e:p+1=W*(p/W)+(p % W+1):=by omega
 rw[e,Nat.mul_add_mod]
 split
 ·rename_i h;rw[h,Nat.mod_self]
 ·rename_i h;exact Nat.mod_eq_of_lt (by omega)
theorem zhf {W H p n:Nat} (hW:0<W) (hp:p<W*H):n∈zdd W H p↔n<W*H∧Adj W p n:=by
 have h1:=Nat.div_add_mod p W
 have h2:=Nat.mod_lt p hW
 have h3:p/W<H:=by rw[Nat.div_lt_iff_lt_mul hW,Nat.mul_comm];exact hp
 have h4:0<p/W↔W≤p:=by rw[Nat.div_pos_iff];exact⟨fun h=>h.2,fun h=>⟨hW,h⟩⟩
 have h5:p/W+1<H↔p+W<W*H:=by
  have:(p+W)/W=p/W+1:=Nat.add_div_right p hW
  rw[←this,Nat.div_lt_iff_lt_mul hW,Nat.mul_comm]
 have h6:=zvr hW p
 have h7:p % W+1<W→p+1<W*H:=by
  intro h
  have:W*(p/W)+W≤W*H:=by rw[←Nat.mul_succ];exact Nat.mul_le_mul_left _ h3
  omega
 unfold zdd Adj
 simp only[List.mem_append]
 constructor
 ·rintro (((h|h)|h)|h)
  ·split at h
   ·rename_i g
    simp only[List.mem_singleton]at h
    have:=h4.1 g
    exact⟨by omega,.inl (by omega)⟩
   ·simp at h
  ·split at h
   ·rename_i g
    simp only[List.mem_singleton]at h
    have:0<p:=Nat.pos_of_ne_zero fun e=>by rw[e]at g;simp at g
    exact⟨by omega,.inr (.inl ⟨by omega,g⟩)⟩
   ·simp at h
  ·split at h
   ·rename_i g
    simp only[List.mem_singleton]at h
    rw[if_neg (by omega)]at h6
    have:=h7 g
    exact⟨by omega,.inr (.inr (.inl ⟨by omega,by rw[h,h6];omega⟩))⟩
   ·simp at h
  ·split at h
   ·rename_i g
    simp only[List.mem_singleton]at h
    have:=h5.1 g
    exact⟨by omega,.inr (.inr (.inr (by omega)))⟩
   ·simp at h
 ·rintro⟨hn,h|⟨h,h'⟩|⟨h,h'⟩|h⟩
  ·refine .inl (.inl (.inl ?_))
   rw[if_pos (h4.2 (by omega))];simp;omega
  ·refine .inl (.inl (.inr ?_))
   rw[if_pos h'];simp;omega
  ·refine .inl (.inr ?_)
   rw[if_pos]
   ·simp;omega
   ·rw[←h,h6]at h'
    split at h'
    ·omega
    ·omega
  ·refine .inr ?_
   rw[if_pos (h5.2 (by omega))];simp;omega
def kV (q:Int):Int:=if q=2 then 3 else 2
theorem zuh (q:Int):2≤kV q∧kV q≤3:=by unfold kV;split<;>omega
theorem zlq {l:List Int} {i:Nat} (v:Int) (p:Nat) (hi:i<l.length):(l.set i v).getD p default=if p=i then v else l.getD p default:=by
 by_cases h:p=i
 ·subst h;rw[if_pos rfl,zad _ _ (by simpa using hi)];simp
 ·rw[if_neg h]
  simp only[List.getD_eq_getElem?_getD,List.getElem?_set,if_neg (Ne.symm h)]
structure Flood (W : Nat) (pl : List Int) (s : List Nat) (far : List Int) : Prop where
 len:far.length=pl.length
 low:∀p,p<pl.length → -1≤far.getD p default
 src:∀p∈s,far.getD p default=0
 why:∀p,p<pl.length→0≤far.getD p default→(p∈s∧far.getD p default=0)∨∃n,n<pl.length∧Adj W p n∧pl.getD p default≠1∧0≤far.getD n default∧far.getD n default+kV (pl.getD p default)≤far.getD p default
 all:∀p n,p<pl.length→n<pl.length→Adj W p n→0≤far.getD p default→pl.getD n default≠1→0≤far.getD n default∧far.getD n default≤far.getD p default+kV (pl.getD n default)
theorem Flood.le {W:Nat} {pl:List Int} {s:List Nat} {f g:List Int} (hf:Flood W pl s f) (hg:Flood W pl s g):∀(N p:Nat),p<pl.length→0≤f.getD p default→f.getD p default≤N→0≤g.getD p default∧g.getD p default≤f.getD p default:=by
 intro N
 induction N using Nat.strongRecOn with
 | _ N ih =>
  intro p hp h0 hN
  rcases hf.why p hp h0 with ⟨h1,h2⟩|⟨n,hn,ha,hr,h3,h4⟩
  ·rw[hg.src p h1];omega
  ·have hk:=zuh (pl.getD p default)
   obtain⟨k,hk2⟩:=Int.eq_ofNat_of_zero_le h3
   have:=ih k (by omega) n hn h3 (by omega)
   have:=hg.all n p hn hp ha.symm this.1 hr
   omega
theorem Flood.uniq {W:Nat} {pl:List Int} {s:List Nat} {f g:List Int} (hf:Flood W pl s f) (hg:Flood W pl s g):f=g:=by
 refine List.ext_getElem (hf.len.trans hg.len.symm) fun p h1 h2 => ?_
 rw[←zad f p h1,←zad g p h2]
 have hp:p<pl.length:=by rw[←hf.len];exact h1
 have l1:=hf.low p hp
 have l2:=hg.low p hp
 by_cases h:0≤f.getD p default
 ·obtain⟨k,hk⟩:=Int.eq_ofNat_of_zero_le h
  have a:=hf.le hg k p hp h (by omega)
  obtain⟨k',hk'⟩:=Int.eq_ofNat_of_zero_le a.1
  have b:=hg.le hf k' p hp a.1 (by omega)
  omega
 ·by_cases h':0≤g.getD p default
  ·obtain⟨k',hk'⟩:=Int.eq_ofNat_of_zero_le h'
   have b:=hg.le hf k' p hp h' (by omega)
   omega
  ·omega
def zhr (g:Int→Nat) (l:List Int):Nat:=(l.map g).sum
theorem zg7 (g:Int→Nat):∀(l:List Int) (i:Nat) (v:Int),i<l.length→zhr g (l.set i v)+g (l.getD i default)=zhr g l+g v
 | [],i,v,h=>by simp at h
 | a::r,0,v,_=>by simp[zhr];omega
 | a::r,i+1,v,h=>by
  have:=zg7 g r i v (by simpa using h)
  simp only[zhr,List.set_cons_succ,List.map_cons,List.sum_cons,List.getD_cons_succ]at this ⊢
  omega
theorem zgp (g:Int→Nat) (b:Nat) (hg:∀x,g x≤b):∀l:List Int,zhr g l≤b*l.length
 | []=>by simp[zhr]
 | a::r=>by
  have:=zgp g b hg r
  have:=hg a
  simp only[zhr,List.map_cons,List.sum_cons,List.length_cons,Nat.mul_add]at *
  omega
def zff (x:Int):Nat:=if 0≤x then 1 else 0
def zu4 (x:Int):Nat:=if 0≤x then x.toNat else 5000
theorem zgw (x:Int):zff x≤1:=by unfold zff;split<;>omega
theorem zp8 (n p:Nat) (h:p<n):(List.replicate n (-1:Int)).getD p default = -1:=by rw[zad _ _ (by simpa using h)];simp
structure Itm where
 place:Int
 far:Int
 deriving DecidableEq, Inhabited
structure Dj (W : Nat) (pl : List Int) (s : List Nat) (far : List Int) (q : List Itm) (done : Nat → Nat → Prop) : Prop where
 len:far.length=pl.length
 low:∀p,p<pl.length → -1≤far.getD p default
 heap:znn Itm.far q q.length
 itm:∀x∈q,∃p:Nat,x.place=(p:Int)∧p<pl.length∧0≤x.far∧x.far≤3*zhr zff far∧(∀m,m<pl.length→far.getD m default≤x.far)∧((p∈s∧x.far=0)∨∃n,n<pl.length∧Adj W p n∧pl.getD p default≠1∧0≤far.getD n default∧x.far=far.getD n default+kV (pl.getD p default))
 src:∀p∈s,far.getD p default=0∨(far.getD p default<0∧∃x∈q,x.place=(p:Int)∧x.far=0)
 why:∀p,p<pl.length→0≤far.getD p default→(p∈s∧far.getD p default=0)∨∃n,n<pl.length∧Adj W p n∧pl.getD p default≠1∧0≤far.getD n default∧far.getD n default+kV (pl.getD p default)≤far.getD p default
 all:∀p n,p<pl.length→n<pl.length→Adj W p n→done p n→0≤far.getD p default→pl.getD n default≠1 →
  (0≤far.getD n default∧far.getD n default≤far.getD p default+kV (pl.getD n default))∨(far.getD n default<0∧∃x∈q,x.place=(n:Int)∧x.far≤far.getD p default+kV (pl.getD n default))
section
variable {W : Nat} {pl : List Int} {s : List Nat} {far : List Int} {q : List Itm} {done : Nat → Nat → Prop}
theorem Dj.flood (h:Dj W pl s far [] fun _ _=>True):Flood W pl s far:=by
 refine⟨h.len,h.low,fun p hp => ?_,h.why,fun p n hp hn ha h0 hr => ?_⟩
 ·rcases h.src p hp with h|⟨_,x,hx,_⟩
  ·exact h
  ·simp at hx
 ·rcases h.all p n hp hn ha trivial h0 hr with h|⟨_,x,hx,_⟩
  ·exact h
  ·simp at hx
theorem Dj.skip (h:Dj W pl s far q done) (hq:0<q.length) {p:Nat} (hp:(q.getD 0 default).place=(p:Int)) (h0:0≤far.getD p default):Dj W pl s far (zgi Itm.far q) done:=by
 have M:=zf7 Itm.far q hq
 refine⟨h.len,h.low,zjc _ _ hq h.heap,fun x hx=>h.itm x ((M x).2 (.inr hx)),fun p' hp' => ?_,h.why,fun p' n h1 h2 h3 h4 h5 h6 => ?_⟩
 ·rcases h.src p' hp' with h7|⟨h7,x,hx,h8,h9⟩
  ·exact .inl h7
  ·refine .inr ⟨h7,x,?_,h8,h9⟩
   rcases (M x).1 hx with e|e
   ·subst e;rw[hp]at h8;have:p=p':=by omega
    subst this;omega
   ·exact e
 ·rcases h.all p' n h1 h2 h3 h4 h5 h6 with h7|⟨h7,x,hx,h8,h9⟩
  ·exact .inl h7
  ·refine .inr ⟨h7,x,?_,h8,h9⟩
   rcases (M x).1 hx with e|e
   ·subst e;rw[hp]at h8;have:p=n:=by omega
    subst this;omega
   ·exact e
theorem Dj.close (hW:0<W) (h:Dj W pl s far q fun _ _=>True) (hq:0<q.length) {p:Nat} (hp:(q.getD 0 default).place=(p:Int)) (h0:far.getD p default<0) :
 p<pl.length∧Dj W pl s (far.set p (q.getD 0 default).far) (zgi Itm.far q) (fun a _=>a≠p):=by
 have M:=zf7 Itm.far q hq
 have mem0:q.getD 0 default∈q:=(M _).2 (.inl rfl)
 obtain⟨p',e1,hpl,j0,jb,jm,jw⟩:=h.itm _ mem0
 obtain rfl:p'=p:=by omega
 have zmm:∀x∈q,(q.getD 0 default).far≤x.far:=fun x hx=>by
  obtain⟨k,hk,rfl⟩:=mem_getD.1 hx
  exact zp2 _ h.heap k hk
 have hp'l:p'<far.length:=by rw[h.len];exact hpl
 generalize (q.getD 0 default).far=d at *
 have G:=fun k=>zlq d k hp'l
 have cnt:zhr zff (far.set p' d)=zhr zff far+1:=by
  have:=zg7 zff far p' d hp'l
  simp only[zff,if_neg (show ¬0≤far.getD p' default by omega),if_pos j0]at this;simpa[zff]using this
 refine⟨hpl,by rw[List.length_set];exact h.len,fun k hk => ?_,zjc _ _ hq h.heap,fun x hx => ?_,fun k hk => ?_,fun k hk hk0 => ?_,fun a n h1 h2 h3 h4 h5 h6 => ?_⟩
 ·rw[G];split
  ·omega
  ·exact h.low k hk
 ·have hx':=(M x).2 (.inr hx)
  obtain⟨k,e2,hk,l0,lb,lm,lw⟩:=h.itm x hx'
  refine⟨k,e2,hk,l0,by rw[cnt];omega,fun m hm => ?_,?_⟩
  ·rw[G];split
   ·exact zmm x hx'
   ·exact lm m hm
  ·rcases lw with lw|⟨n,n1,n2,n3,n4,n5⟩
   ·exact .inl lw
   ·refine .inr ⟨n,n1,n2,n3,?_⟩
    rw[G,if_neg (by intro e;subst e;omega)];exact⟨n4,n5⟩
 ·rw[G]
  rcases h.src k hk with h7|⟨h7,x,hx,h8,h9⟩
  ·rw[if_neg (by intro e;subst e;omega)];exact .inl h7
  ·by_cases e:k=p'
   ·subst e
    rw[if_pos rfl]
    have:=zmm x hx
    exact .inl (by omega)
   ·rw[if_neg e]
    refine .inr ⟨h7,x,?_,h8,h9⟩
    rcases (M x).1 hx with e3|e3
    ·subst e3;omega
    ·exact e3
 ·rw[G]at hk0 ⊢
  by_cases e:k=p'
  ·subst e
   rw[if_pos rfl]
   rcases jw with jw|⟨n,n1,n2,n3,n4,n5⟩
   ·exact .inl jw
   ·refine .inr ⟨n,n1,n2,n3,?_⟩
    rw[G,if_neg (by intro e;subst e;omega)];omega
  ·rw[if_neg e]at hk0 ⊢
   rcases h.why k hk hk0 with jw|⟨n,n1,n2,n3,n4,n5⟩
   ·exact .inl jw
   ·refine .inr ⟨n,n1,n2,n3,?_⟩
    rw[G,if_neg (by intro e;subst e;omega)];exact⟨n4,n5⟩
 ·rw[G,if_neg h4]at h5
  rw[G,G,if_neg h4]
  rcases h.all a n h1 h2 h3 trivial h5 h6 with h7|⟨h7,x,hx,h8,h9⟩
  ·rw[if_neg (by intro e;subst e;omega)];exact .inl h7
  ·by_cases e:n=p'
   ·subst e
    rw[if_pos rfl]
    have:=zmm x hx
    exact .inl ⟨j0,by omega⟩
   ·rw[if_neg e]
    refine .inr ⟨h7,x,?_,h8,h9⟩
    rcases (M x).1 hx with e3|e3
    ·subst e3;omega
    ·exact e3
theorem Dj.look {p n:Nat} (h:Dj W pl s far q done) (hn:n<pl.length) (hp:p<pl.length) (ha:Adj W p n) (h0:0≤far.getD p default) (top:∀m,m<pl.length→far.getD m default≤far.getD p default) (hb:far.getD p default+3≤3*zhr zff far) (done':Nat→Nat→Prop) (hd:∀a b,done' a b→done a b∨(a=p∧b=n))
 {q':List Itm} (hq':((pl.getD n default=1∨0≤far.getD n default)∧q'=q)∨(pl.getD n default≠1∧far.getD n default<0∧q'=zed Itm.far q ⟨(n:Int),far.getD p default+kV (pl.getD n default)⟩)):Dj W pl s far q' done':=by
 have sub:∀x∈q,x∈q':=fun x hx=>by
  rcases hq' with ⟨_,rfl⟩|⟨_,_,rfl⟩
  ·exact hx
  ·exact(zd5 _ _ _ _).2 (.inl hx)
 refine⟨h.len,h.low,?_,fun x hx => ?_,fun k hk => ?_,h.why,fun a b h1 h2 h3 h4 h5 h6 => ?_⟩
 ·rcases hq' with ⟨_,rfl⟩|⟨_,_,rfl⟩
  ·exact h.heap
  ·exact zj6 _ _ _ h.heap
 ·rcases hq' with ⟨_,rfl⟩|⟨g1,g2,rfl⟩
  ·exact h.itm x hx
  ·rcases (zd5 _ _ _ _).1 hx with e|e
   ·exact h.itm x e
   ·subst e
    have hk:=zuh (pl.getD n default)
    exact⟨n,rfl,hn,by simp only;omega,by simp only;omega,fun m hm=>by have:=top m hm;simp only;omega,.inr ⟨p,hp,ha.symm,g1,h0,rfl⟩⟩
 ·rcases h.src k hk with h7|⟨h7,x,hx,h8,h9⟩
  ·exact .inl h7
  ·exact .inr ⟨h7,x,sub x hx,h8,h9⟩
 ·rcases hd a b h4 with h4|⟨rfl,rfl⟩
  ·rcases h.all a b h1 h2 h3 h4 h5 h6 with h7|⟨h7,x,hx,h8,h9⟩
   ·exact .inl h7
   ·exact .inr ⟨h7,x,sub x hx,h8,h9⟩
  ·rcases hq' with ⟨g|g,rfl⟩|⟨g1,g2,rfl⟩
   ·exact absurd g h6
   ·have hk:=zuh (pl.getD b default)
    have:=top b hn
    exact .inl ⟨g,by omega⟩
   ·exact .inr ⟨g2,_,(zd5 _ _ _ _).2 (.inr rfl),rfl,Int.le_refl _⟩
theorem Dj.start (hs:∀p∈s,p<pl.length) (hh:znn Itm.far q q.length) (h1:∀x∈q,∃p∈s,x.place=(p:Int)∧x.far=0) (h2:∀p∈s,∃x∈q,x.place=(p:Int)∧x.far=0):Dj W pl s (List.replicate pl.length (-1)) q fun _ _=>True:=by
 have G:=fun p hp=>zp8 pl.length p hp
 refine⟨by simp,fun p hp=>by rw[G p hp];omega,hh,fun x hx => ?_,fun p hp => .inr ⟨by rw[G p (hs p hp)];omega,h2 p hp⟩,fun p hp h0 => ?_,fun p n hp _ _ _ h0 _ => ?_⟩
 ·obtain⟨p,hp,e1,e2⟩:=h1 x hx
  exact⟨p,e1,hs p hp,by omega,by omega,fun m hm=>by rw[G m hm];omega,.inl ⟨hp,e2⟩⟩
 ·rw[G p hp]at h0;omega
 ·rw[G p hp]at h0;omega
end
structure Bf (W : Nat) (pl : List Int) (s : List Nat) (far : List Int) : Prop where
 len:far.length=pl.length
 low:∀p,p<pl.length → -1≤far.getD p default
 src:∀p∈s,far.getD p default=0
 why:∀p,p<pl.length→0≤far.getD p default→(p∈s∧far.getD p default=0)∨∃n,n<pl.length∧Adj W p n∧pl.getD p default≠1∧0≤far.getD n default∧far.getD n default+kV (pl.getD p default)≤far.getD p default
 top:∀p,p<pl.length→far.getD p default≤3*zhr zff far
def zzh (pl far:List Int) (i n:Nat):Prop:=pl.getD i default=1∨far.getD n default<0∨(0≤far.getD i default∧far.getD i default≤far.getD n default+kV (pl.getD i default))
section
variable {W : Nat} {pl : List Int} {s : List Nat} {far : List Int}
theorem Bf.flood (h:Bf W pl s far) (hf:∀i n,i<pl.length→n<pl.length→Adj W i n→zzh pl far i n):Flood W pl s far:=by
 refine⟨h.len,h.low,h.src,h.why,fun p n hp hn ha h0 hr => ?_⟩
 rcases hf n p hn hp ha.symm with h1|h1|h1
 ·exact absurd h1 hr
 ·omega
 ·exact h1
theorem Bf.better (h:Bf W pl s far) (hl:pl.length≤1600) {i n:Nat} (hi:i<pl.length) (hn:n<pl.length) (ha:Adj W i n) (hne:i≠n) (hf:¬zzh pl far i n) :
 Bf W pl s (far.set i (far.getD n default+kV (pl.getD i default)))∧zhr zu4 (far.set i (far.getD n default+kV (pl.getD i default)))<zhr zu4 far:=by
 unfold zzh at hf
 rw[not_or,not_or]at hf
 obtain⟨f1,f2,f3⟩:=hf
 have hk:=zuh (pl.getD i default)
 have hil:i<far.length:=by rw[h.len];exact hi
 have top:=h.top n hn
 have c1:=zgp zff 1 zgw far
 rw[h.len]at c1
 obtain⟨d,hd⟩:∃d,d=far.getD n default+kV (pl.getD i default):=⟨_,rfl⟩
 rw[←hd]
 have G:=fun k=>zlq d k hil
 have cnt:=zg7 zff far i d hil
 have bg:=zg7 zu4 far i d hil
 have o1:zff d=1:=by unfold zff;rw[if_pos (by omega)]
 have b1:zu4 d=d.toNat:=by unfold zu4;rw[if_pos (by omega)]
 rw[o1]at cnt
 rw[b1]at bg
 have o2:=zgw (far.getD i default)
 refine⟨⟨by rw[List.length_set];exact h.len,fun k hk2 => ?_,fun k hk2 => ?_,fun k hk2 hk0 => ?_,fun k hk2 => ?_⟩,?_⟩
 ·rw[G];split
  ·omega
  ·exact h.low k hk2
 ·rw[G,if_neg]
  ·exact h.src k hk2
  ·intro e;subst e
   have:=h.src _ hk2
   exact f3 ⟨by omega,by omega⟩
 ·rw[G]at hk0 ⊢
  by_cases e:k=i
  ·subst e
   rw[if_pos rfl]
   refine .inr ⟨n,hn,ha,f1,?_⟩
   rw[G,if_neg (Ne.symm hne)];omega
  ·rw[if_neg e]at hk0 ⊢
   rcases h.why k hk2 hk0 with jw|⟨m,n1,n2,n3,n4,n5⟩
   ·exact .inl jw
   ·refine .inr ⟨m,n1,n2,n3,?_⟩
    rw[G]
    split
    ·rename_i e2;subst e2;omega
    ·exact⟨n4,n5⟩
 ·rw[G];split
  ·by_cases hneg:0≤far.getD i default
   ·have:zff (far.getD i default)=1:=by unfold zff;rw[if_pos hneg]
    have:=h.top i hi
    omega
   ·have:zff (far.getD i default)=0:=by unfold zff;rw[if_neg hneg]
    omega
  ·have:=h.top k hk2;omega
 ·by_cases hneg:0≤far.getD i default
  ·have:zu4 (far.getD i default)=(far.getD i default).toNat:=by unfold zu4;rw[if_pos hneg]
   omega
  ·have:zu4 (far.getD i default)=5000:=by unfold zu4;rw[if_neg hneg]
   omega
end
structure Nod where
 c:Cel
 far:Int
 all:Int
 deriving DecidableEq, Inhabited
def zeg (W p:Nat):Cel:=⟨((p % W:Nat):Int),((p/W:Nat):Int)⟩
theorem zel {W p n:Nat} (h:zeg W p=zeg W n):p=n:=by
 unfold zeg at h
 simp only[Cel.mk.injEq]at h
 have h1:=Nat.div_add_mod p W
 have h2:=Nat.div_add_mod n W
 have e1:p % W=n % W:=by omega
 have e2:p/W=n/W:=by omega
 rw[←h1,←h2,e1,e2]
def ygk (W L:Nat) (hh:Nat→Int):Prop:=∀p n,p<L→n<L→Adj W p n→hh p≤hh n+2
structure As (W : Nat) (pl : List Int) (a : Nat) (hh : Nat → Int) (far : List Int) (q : List Nod) (done : Nat → Nat → Prop) : Prop where
 len:far.length=pl.length
 low:∀p,p<pl.length → -1≤far.getD p default
 heap:znn Nod.all q q.length
 itm:∀x∈q,∃p:Nat,x.c=zeg W p∧p<pl.length∧0≤x.far∧x.far≤3*zhr zff far∧x.all=x.far+hh p∧(∀m,m<pl.length→0≤far.getD m default→far.getD m default+hh m≤x.all)∧((p=a∧x.far=0)∨∃n,n<pl.length∧Adj W p n∧pl.getD p default≠1∧0≤far.getD n default∧x.far=far.getD n default+kV (pl.getD p default))
 src:far.getD a default=0∨(far.getD a default<0∧∃x∈q,x.c=zeg W a∧x.far=0)
 why:∀p,p<pl.length→0≤far.getD p default→(p=a∧far.getD p default=0)∨∃n,n<pl.length∧Adj W p n∧pl.getD p default≠1∧0≤far.getD n default∧far.getD p default=far.getD n default+kV (pl.getD p default)
 top:∀p,p<pl.length→far.getD p default≤3*zhr zff far
 all:∀p n,p<pl.length→n<pl.length→Adj W p n→done p n→0≤far.getD p default→pl.getD n default≠1 →
  (0≤far.getD n default∧far.getD n default≤far.getD p default+kV (pl.getD n default))∨(far.getD n default<0∧∃x∈q,x.c=zeg W n∧x.far≤far.getD p default+kV (pl.getD n default))
section
variable {W : Nat} {pl : List Int} {a : Nat} {hh : Nat → Int} {far : List Int} {q : List Nod} {done : Nat → Nat → Prop}
theorem As.skip (h:As W pl a hh far q done) (hq:0<q.length) {p:Nat} (hp:(q.getD 0 default).c=zeg W p) (h0:0≤far.getD p default):As W pl a hh far (zgi Nod.all q) done:=by
 have M:=zf7 Nod.all q hq
 refine⟨h.len,h.low,zjc _ _ hq h.heap,fun x hx=>h.itm x ((M x).2 (.inr hx)),?_,h.why,h.top,fun p' n h1 h2 h3 h4 h5 h6 => ?_⟩
 ·rcases h.src with h7|⟨h7,x,hx,h8,h9⟩
  ·exact .inl h7
  ·refine .inr ⟨h7,x,?_,h8,h9⟩
   rcases (M x).1 hx with e|e
   ·subst e;rw[hp]at h8;have:=zel h8;subst this;omega
   ·exact e
 ·rcases h.all p' n h1 h2 h3 h4 h5 h6 with h7|⟨h7,x,hx,h8,h9⟩
  ·exact .inl h7
  ·refine .inr ⟨h7,x,?_,h8,h9⟩
   rcases (M x).1 hx with e|e
   ·subst e;rw[hp]at h8;have:=zel h8;subst this;omega
   ·exact e
theorem As.close (hW:0<W) (h:As W pl a hh far q fun _ _=>True) (hq:0<q.length) {p:Nat} (hp:(q.getD 0 default).c=zeg W p) (h0:far.getD p default<0) :
 p<pl.length∧As W pl a hh (far.set p (q.getD 0 default).far) (zgi Nod.all q) (fun x _=>x≠p):=by
 have M:=zf7 Nod.all q hq
 have mem0:q.getD 0 default∈q:=(M _).2 (.inl rfl)
 obtain⟨p',e1,hpl,j0,jb,ja,jm,jw⟩:=h.itm _ mem0
 obtain rfl:p=p':=zel (hp.symm.trans e1)
 have zmm:∀x∈q,(q.getD 0 default).all≤x.all:=fun x hx=>by
  obtain⟨k,hk,rfl⟩:=mem_getD.1 hx
  exact zp2 _ h.heap k hk
 have hpL:p<far.length:=by rw[h.len];exact hpl
 generalize q.getD 0 default=x0 at *
 obtain⟨c0,d,al⟩:=x0
 simp only at *
 have G:=fun k=>zlq d k hpL
 have cnt:zhr zff (far.set p d)=zhr zff far+1:=by
  have:=zg7 zff far p d hpL
  simp only[zff,if_neg (show ¬0≤far.getD p default by omega),if_pos j0]at this;simpa[zff]using this
 refine⟨hpl,by rw[List.length_set];exact h.len,fun k hk => ?_,zjc _ _ hq h.heap,fun x hx => ?_,?_,fun k hk hk0 => ?_,fun k hk => ?_,fun u n h1 h2 h3 h4 h5 h6 => ?_⟩
 ·rw[G];split
  ·omega
  ·exact h.low k hk
 ·have hx':=(M x).2 (.inr hx)
  obtain⟨k,e2,hk,l0,lb,la,lm,lw⟩:=h.itm x hx'
  refine⟨k,e2,hk,l0,by rw[cnt];omega,la,fun m hm hm0 => ?_,?_⟩
  ·rw[G]at hm0 ⊢;split
   ·rename_i e;subst e;have:=zmm x hx';omega
   ·rename_i e;rw[if_neg e]at hm0;exact lm m hm hm0
  ·rcases lw with lw|⟨n,n1,n2,n3,n4,n5⟩
   ·exact .inl lw
   ·refine .inr ⟨n,n1,n2,n3,?_⟩
    rw[G,if_neg (by intro e;subst e;omega)];exact⟨n4,n5⟩
 ·rw[G]
  rcases h.src with h7|⟨h7,x,hx,h8,h9⟩
  ·rw[if_neg (by intro e;subst e;omega)];exact .inl h7
  ·by_cases e:a=p
   ·subst e
    rw[if_pos rfl]
    have:=zmm x hx
    obtain⟨k,e2,_,_,_,la,_,_⟩:=h.itm x hx
    have:=zel (e2.symm.trans h8)
    subst this
    exact .inl (by omega)
   ·rw[if_neg e]
    refine .inr ⟨h7,x,?_,h8,h9⟩
    rcases (M x).1 hx with e3|e3
    ·subst e3;exact absurd (zel (h8.symm.trans hp)) e
    ·exact e3
 ·rw[G]at hk0 ⊢
  by_cases e:k=p
  ·subst e
   rw[if_pos rfl]
   rcases jw with jw|⟨n,n1,n2,n3,n4,n5⟩
   ·exact .inl jw
   ·refine .inr ⟨n,n1,n2,n3,?_⟩
    rw[G,if_neg (by intro e;subst e;omega)];omega
  ·rw[if_neg e]at hk0 ⊢
   rcases h.why k hk hk0 with jw|⟨n,n1,n2,n3,n4,n5⟩
   ·exact .inl jw
   ·refine .inr ⟨n,n1,n2,n3,?_⟩
    rw[G,if_neg (by intro e;subst e;omega)];exact⟨n4,n5⟩
 ·rw[G,cnt];split
  ·omega
  ·have:=h.top k hk;omega
 ·rw[G,if_neg h4]at h5
  rw[G,G,if_neg h4]
  rcases h.all u n h1 h2 h3 trivial h5 h6 with h7|⟨h7,x,hx,h8,h9⟩
  ·rw[if_neg (by intro e;subst e;omega)];exact .inl h7
  ·by_cases e:n=p
   ·subst e
    rw[if_pos rfl]
    have:=zmm x hx
    obtain⟨k,e2,_,_,_,la,_,_⟩:=h.itm x hx
    have:=zel (e2.symm.trans h8)
    subst this
    exact .inl ⟨j0,by omega⟩
   ·rw[if_neg e]
    refine .inr ⟨h7,x,?_,h8,h9⟩
    rcases (M x).1 hx with e3|e3
    ·subst e3;exact absurd (zel (h8.symm.trans hp)) e
    ·exact e3
theorem As.look (hc:ygk W pl.length hh) {p n:Nat} (h:As W pl a hh far q done) (hn:n<pl.length) (hp:p<pl.length) (ha:Adj W p n) (h0:0≤far.getD p default) (top:∀m,m<pl.length→0≤far.getD m default→far.getD m default+hh m≤far.getD p default+hh p) (hb:far.getD p default+3≤3*zhr zff far) (done':Nat→Nat→Prop) (hd:∀x y,done' x y→done x y∨(x=p∧y=n))
 {q':List Nod} (hq':((pl.getD n default=1∨0≤far.getD n default)∧q'=q)∨(pl.getD n default≠1∧far.getD n default<0∧q'=zed Nod.all q ⟨zeg W n,far.getD p default+kV (pl.getD n default),far.getD p default+kV (pl.getD n default)+hh n⟩)):As W pl a hh far q' done':=by
 have hcn:=hc p n hp hn ha
 have sub:∀x∈q,x∈q':=fun x hx=>by
  rcases hq' with ⟨_,rfl⟩|⟨_,_,rfl⟩
  ·exact hx
  ·exact(zd5 _ _ _ _).2 (.inl hx)
 refine⟨h.len,h.low,?_,fun x hx => ?_,?_,h.why,h.top,fun u b h1 h2 h3 h4 h5 h6 => ?_⟩
 ·rcases hq' with ⟨_,rfl⟩|⟨_,_,rfl⟩
  ·exact h.heap
  ·exact zj6 _ _ _ h.heap
 ·rcases hq' with ⟨_,rfl⟩|⟨g1,g2,rfl⟩
  ·exact h.itm x hx
  ·rcases (zd5 _ _ _ _).1 hx with e|e
   ·exact h.itm x e
   ·subst e
    have hk:=zuh (pl.getD n default)
    exact⟨n,rfl,hn,by simp only;omega,by simp only;omega,rfl,fun m hm hm0=>by have:=top m hm hm0;simp only;omega,.inr ⟨p,hp,ha.symm,g1,h0,rfl⟩⟩
 ·rcases h.src with h7|⟨h7,x,hx,h8,h9⟩
  ·exact .inl h7
  ·exact .inr ⟨h7,x,sub x hx,h8,h9⟩
 ·rcases hd u b h4 with h4|⟨rfl,rfl⟩
  ·rcases h.all u b h1 h2 h3 h4 h5 h6 with h7|⟨h7,x,hx,h8,h9⟩
   ·exact .inl h7
   ·exact .inr ⟨h7,x,sub x hx,h8,h9⟩
  ·rcases hq' with ⟨g|g,rfl⟩|⟨g1,g2,rfl⟩
   ·exact absurd g h6
   ·have hk:=zuh (pl.getD b default)
    have:=top b hn g
    have:=hc u b hp hn ha
    exact .inl ⟨g,by omega⟩
   ·exact .inr ⟨g2,_,(zd5 _ _ _ _).2 (.inr rfl),rfl,Int.le_refl _⟩
theorem As.start (ha:a<pl.length):As W pl a hh (List.replicate pl.length (-1)) (zed Nod.all [] ⟨zeg W a,0,0+hh a⟩) fun _ _=>True:=by
 have G:=fun p hp=>zp8 pl.length p hp
 refine⟨by simp,fun p hp=>by rw[G p hp];omega,zj6 _ _ _ (fun k h1 h2=>absurd h2 (Nat.not_lt_zero _)),fun x hx => ?_,.inr ⟨by rw[G a ha];omega,_,(zd5 _ _ _ _).2 (.inr rfl),rfl,rfl⟩,fun p hp h0 => ?_,fun p hp=>by rw[G p hp];omega,fun p n hp _ _ _ h0 _ => ?_⟩
 ·rcases (zd5 _ _ _ _).1 hx with e|e
  ·simp at e
  ·subst e
   exact⟨a,rfl,ha,Int.le_refl _,by simp only;omega,rfl,fun m hm h0=>by rw[G m hm]at h0;omega,.inl ⟨rfl,rfl⟩⟩
 ·rw[G p hp]at h0;omega
 ·rw[G p hp]at h0;omega
variable {F : List Int}
theorem As.up (h:As W pl a hh far q done) (hF:Flood W pl [a] F):∀(N p:Nat),p<pl.length→0≤far.getD p default→far.getD p default≤N→0≤F.getD p default∧F.getD p default≤far.getD p default:=by
 intro N
 induction N using Nat.strongRecOn with
 | _ N ih =>
  intro p hp h0 hN
  rcases h.why p hp h0 with ⟨h1,h2⟩|⟨n,hn,ha,hr,h3,h4⟩
  ·subst h1;rw[hF.src p (by simp)];omega
  ·have hk:=zuh (pl.getD p default)
   obtain⟨k,hk2⟩:=Int.eq_ofNat_of_zero_le h3
   have:=ih k (by omega) n hn h3 (by omega)
   have:=hF.all n p hn hp ha.symm this.1 hr
   omega
theorem As.down (hc:ygk W pl.length hh) (h:As W pl a hh far q fun _ _=>True) (ha:a<pl.length) (hF:Flood W pl [a] F):∀(N p:Nat),p<pl.length→0≤F.getD p default→F.getD p default≤N →
 (0≤far.getD p default∧far.getD p default≤F.getD p default)∨∃x∈q,x.all≤F.getD p default+hh p:=by
 intro N
 induction N using Nat.strongRecOn with
 | _ N ih =>
  intro p hp h0 hN
  have itm:∀x∈q,x.c=zeg W p→x.all=x.far+hh p:=fun x hx e=>by
   obtain⟨k,e2,_,_,_,la,_,_⟩:=h.itm x hx
   have:=zel (e2.symm.trans e)
   subst this;exact la
  rcases hF.why p hp h0 with ⟨h1,h2⟩|⟨n,hn,hadj,hr,h3,h4⟩
  ·obtain rfl:p=a:=by simpa using h1
   rcases h.src with h7|⟨_,x,hx,h8,h9⟩
   ·exact .inl (by omega)
   ·exact .inr ⟨x,hx,by rw[itm x hx h8];omega⟩
  ·have hk:=zuh (pl.getD p default)
   obtain⟨k,hk2⟩:=Int.eq_ofNat_of_zero_le h3
   rcases ih k (by omega) n hn h3 (by omega)with ⟨g1,g2⟩|⟨x,hx,hxa⟩
   ·rcases h.all n p hn hp hadj.symm trivial g1 hr with g3|⟨_,x,hx,e,g4⟩
    ·exact .inl (by omega)
    ·exact .inr ⟨x,hx,by rw[itm x hx e];omega⟩
   ·have:=hc n p hn hp hadj.symm
    exact .inr ⟨x,hx,by omega⟩
theorem As.same (hc:ygk W pl.length hh) (h:As W pl a hh far q fun _ _=>True) (ha:a<pl.length) (hF:Flood W pl [a] F) {p:Nat} (hp:p<pl.length) (h0:0≤far.getD p default):far.getD p default=F.getD p default:=by
 obtain⟨N,hN⟩:=Int.eq_ofNat_of_zero_le h0
 have h1:=h.up hF N p hp h0 (by omega)
 obtain⟨M,hM⟩:=Int.eq_ofNat_of_zero_le h1.1
 rcases h.down hc ha hF M p hp h1.1 (by omega)with h2|⟨x,hx,hxa⟩
 ·omega
 ·obtain⟨k,_,_,_,_,_,lm,_⟩:=h.itm x hx
  have:=lm p hp h0
  omega
theorem As.known (hc:ygk W pl.length hh) (h:As W pl a hh far q fun _ _=>True) (ha:a<pl.length) (hF:Flood W pl [a] F) {p:Nat} (hp:p<pl.length) (h0:0≤F.getD p default) (hout:∀x∈q,¬x.all≤F.getD p default+hh p):far.getD p default=F.getD p default:=by
 obtain⟨M,hM⟩:=Int.eq_ofNat_of_zero_le h0
 rcases h.down hc ha hF M p hp h0 (by omega)with h2|⟨x,hx,hxa⟩
 ·exact h.same hc ha hF hp h2.1
 ·exact absurd hxa (hout x hx)
end
theorem zur {W:Nat} {pl:List Int} {s:List Nat} (hW:0<W) (hl:pl.length≤1600):∀(N:Nat) (far:List Int),zhr zu4 far≤N→Bf W pl s far→∃F,Flood W pl s F:=by
 intro N
 induction N using Nat.strongRecOn with
 | _ N ih =>
  intro far hN hB
  by_cases hf:∀i n,i<pl.length→n<pl.length→Adj W i n→zzh pl far i n
  ·exact⟨far,hB.flood hf⟩
  ·simp only[Classical.not_forall]at hf
   obtain⟨i,n,hi,hn,ha,hnf⟩:=hf
   obtain⟨b1,b2⟩:=hB.better hl hi hn ha (Adj.ne hW ha) hnf
   exact ih _ (by omega) _ (Nat.le_refl _) b1
theorem z6u {W:Nat} {pl:List Int} {s:List Nat} (hW:0<W) (hl:pl.length≤1600) (hs:∀p∈s,p<pl.length):∃F,Flood W pl s F:=by
 have G:∀p,p<pl.length→((List.range pl.length).map fun p=>if p∈s then (0:Int)else -1).getD p default=if p∈s then 0 else -1:=fun p hp=>by rw[zad _ _ (by simpa using hp)];simp
 refine zur hW hl _ ((List.range pl.length).map fun p=>if p∈s then (0:Int)else -1) (Nat.le_refl _) ⟨by simp,fun p hp => ?_,fun p hp => ?_,fun p hp h0 => ?_,fun p hp => ?_⟩
 ·rw[G p hp];split<;>omega
 ·rw[G p (hs p hp),if_pos hp]
 ·rw[G p hp]at h0 ⊢
  split at h0
  ·rename_i h;rw[if_pos h];exact .inl ⟨h,rfl⟩
  ·omega
 ·rw[G p hp];split<;>omega
end Go.Proofs.YtbapdgmcndgieaaGreat
namespace Go.Proofs.YtbapdgmcndgieaaGreat
set_option linter.all false
open Go.RowKit
set_option maxRecDepth 100000
theorem zhi {α : Type} (p : α → Bool) (l:List α):decide (0≤ze4 p l)=l.any p:=by
 unfold ze4
 cases h:l.findIdx? p with
 | none =>
  have:=List.findIdx?_eq_none_iff.1 h
  simp only[show ¬(0:Int) ≤ -1 by omega,decide_false]
  symm;rw[List.any_eq_false];intro x hx;simp[this x hx]
 | some i =>
  obtain⟨hi,h1,_⟩:=List.findIdx?_eq_some_iff_getElem.1 h
  simp only[Int.natCast_nonneg,decide_true]
  symm;rw[List.any_eq_true];exact⟨_,List.getElem_mem hi,h1⟩
theorem yfm (F:FuncId) (a b:List AV) (l:List Int) (p:Int→Bool) (hl:l.length≤9223372036854775807) (hp:∀n∈l,Spec Tryz.prog F (a ++ [I .i64 n]++b) [] (B (p n)) []) (ha:∀h,cvL [] h a=a) (hb:∀h,cvL [] h b=b) :
 Spec Tryz.prog 188 [.c (.sl 1 (l.map zac)),.clo (.func F) a b] [] (I .i64 (ze4 p l)) []:=by
 refine spB Tryz.func188 19 [.tmp 4] Tryz.results188 ?_
 simp(etaStruct := .none)only[push_cast,zab,seval]
 refine zas (fun k:Nat=>⟨[(8,I .i64 k),(7,I .i64 l.length),(0,.c (.sl 1 (l.map zac))),(1,.clo (.func F) a b)],[],0⟩) (fun k=>k≤l.length∧∀j (hj:j<l.length),j<k→p l[j]=false) (fun k=>l.length-k) 0 ⟨Nat.zero_le _,fun j _ h=>by omega⟩ (To.mk [] rfl rfl List.nodup_nil trivial ?_) ?_
 ·simp(etaStruct := .none)only[push_cast,zab,seval,ha,hb]
 ·rintro k ⟨hk,hn⟩
  simp(etaStruct := .none)only[push_cast,zab,seval]
  refine zal (fun h => ?_) (fun h => ?_)
  ·have hlt:k<l.length:=by simpa using h
   simp(etaStruct := .none)only[push_cast,zab,seval,zbn _ _ _ hlt,zac]
   repeat with_reducible refine obA ?_
   refine zct (hp _ (List.getElem_mem hlt)) (by simp only[zdr,ha,hb,cvL,cv];exact WkL.refl _) ?_
   simp(etaStruct := .none)only[push_cast,zab,seval]
   refine zal (fun h => ?_) (fun h => ?_)
   ·simp(etaStruct := .none)only[push_cast,zab,seval]
    exact zbe rfl trivial (Wk.of (by rw[zdc p l k hlt h hn];rfl))
   ·simp(etaStruct := .none)only[push_cast,zab,seval]
    refine⟨k+1,⟨by omega,fun j hj hjk => ?_⟩,by omega,To.mk [] rfl rfl List.nodup_nil trivial ?_⟩
    ·by_cases e:j=k
     ·subst e;exact h
     ·exact hn j hj (by omega)
    ·simp(etaStruct := .none)only[push_cast,zab,seval,ha,hb]
     simp(disch:=omega)only[zaq,zbl,tdv,tmd]
  ·have hge:k=l.length:=by simp at h;omega
   subst hge
   simp(etaStruct := .none)only[push_cast,zab,seval]
   exact zbe rfl trivial (Wk.of (by rw[zcs p l (fun j hj=>hn j hj hj)];rfl))
theorem yby (F:FuncId) (a b:List AV) (l:List Int) (p:Int→Bool) (hl:l.length≤9223372036854775807) (hp:∀n∈l,Spec Tryz.prog F (a ++ [I .i64 n]++b) [] (B (p n)) []) (ha:∀h,cvL [] h a=a) (hb:∀h,cvL [] h b=b) :
 Spec Tryz.prog 166 [.c (.sl 1 (l.map zac)),.clo (.func F) a b] [] (B (l.any p)) []:=by
 refine spB Tryz.func166 9 [.tmp 4] Tryz.results166 ?_
 simp(etaStruct := .none)only[push_cast,zab,seval]
 refine zct (yfm F a b l p hl hp ha hb) (by simp only[ha,hb,cvL,cv];exact WkL.refl _) ?_
 simp(etaStruct := .none)only[push_cast,zab,seval]
 exact zbe rfl trivial (Wk.of (by rw[zhi];rfl))
def zap (n a b:Int):Bool:=decide (a≤n)&&decide (n≤b)
theorem within_iff {n a b:Int} : zap n a b=true↔a≤n∧n≤b:=by unfold zap;simp
theorem within_f {n a b:Int} : zap n a b=false↔¬(a≤n∧n≤b):=by unfold zap;simp
theorem zay (n a b:Int):Spec Tryz.prog 18 [I .i64 n,I .i64 a,I .i64 b] [] (B (zap n a b)) []:=by
 refine spB Tryz.func18 15 [.tmp 6] Tryz.results18 ?_
 try refine xst ?_
 exact zbe rfl trivial (Wk.of (congrArg B (by unfold zap;first|rfl|simp)))
def zd7 (f:Fld):Bool := !zap f.w 1 40 || !zap f.h 1 40
def zb6 (f:Fld):Bool := !decide ((f.p.length:Int)=f.w*f.h)||f.p.any (fun p=>decide (p<0)||decide (4≤p))
def zbp (f:Fld):Int:=if zd7 f then 1 else if zb6 f then 4 else 0
theorem zba {f:Fld} (h:zbp f=0):(1≤f.w∧f.w≤40)∧(1≤f.h∧f.h≤40)∧(f.p.length:Int)=f.w*f.h∧∀p∈f.p,0≤p∧p<4:=by
 unfold zbp at h
 split at h
 ·simp at h
 ·rename_i h1
  split at h
  ·simp at h
  ·rename_i h2
   simp only[zd7,Bool.or_eq_true,Bool.not_eq_true',not_or,Bool.not_eq_false,within_iff]at h1
   simp only[zb6,Bool.or_eq_true,Bool.not_eq_true',decide_eq_false_iff_not,not_or,Decidable.not_not,List.any_eq_true,not_exists,not_and,decide_eq_true_eq]at h2
   exact⟨h1.1,h1.2,h2.1,fun p hp=>by have:=h2.2 p hp;omega⟩
theorem z71 (n:Int):Spec Tryz.prog 165 [I .i64 n] [] (B (zap n 1 40)) []:=by
 refine spB Tryz.func165 9 [.tmp 2] Tryz.results165 ?_
 try refine xst ?_
 exact zbe rfl trivial (Wk.of (congrArg B (by unfold zap;first|rfl|simp)))
theorem yfx (n:Int):Spec Tryz.prog 167 ([] ++ [I .i64 n] ++ []) [] (B (decide (n<0)||decide (4≤n))) []:=by
 refine spB Tryz.func167 9 [.tmp 2] Tryz.results167 ?_
 try refine xst ?_
 exact zbe rfl trivial (Wk.refl _)
theorem zxe (f:Fld) (hl:f.p.length≤9223372036854775807):Spec Tryz.prog 130 [znh f] [] (I .i64 (zbp f)) []:=by
 refine spB Tryz.func130 27 [.tmp 2] Tryz.results130 ?_
 try refine xst ?_
 refine zct (z71 f.w) (WkL.refl _) ?_
 try refine xst ?_
 refine zw9 (fun hc=>z71 f.h) (WkL.refl _) (by intro hc;(try simp(etaStruct := .none)only[push_cast,zab,seval]);(try simp_all)) ?_
 try refine xst ?_
 refine zal (fun h1 => ?_) (fun h1 => ?_)
 ·try refine xst ?_
  (first|(refine zar rfl (Wk.of ?_);(try simp(etaStruct := .none)only[push_cast,zab,seval]);first|done|(simp[zbp,zd7,zb6, *];done)|(simp_all[zbp,zd7,zb6];done))|(refine zar rfl ?_;(try simp(etaStruct := .none)only[push_cast,zab,seval]);(try simp[zbp,zd7,zb6, *]);(try exact wkc)))
 ·have hw:zap f.w 1 40=true∧zap f.h 1 40=true:=by simpa using h1
  obtain⟨h3,h4⟩:=hw
  rw[within_iff]at h3 h4
  have hm1:0≤f.w*f.h:=Int.mul_nonneg (by omega) (by omega)
  have hm2:f.w*f.h≤40*40:=Int.mul_le_mul h3.2 h4.2 (by omega) (by omega)
  try refine xst ?_
  refine zw9 (fun hc=>yby _ [] [] f.p (fun p=>decide (p<0)||decide (4≤p)) hl (fun n _=>yfx n) (fun _=>rfl) (fun _=>rfl)) (WkL.refl _) (by intro hc;(try simp(etaStruct := .none)only[push_cast,zab,seval]);(try simp_all)) ?_
  try refine xst ?_
  refine zal (fun h2 => ?_) (fun h2 => ?_)
  ·try refine xst ?_
   (first|(refine zar rfl (Wk.of ?_);(try simp(etaStruct := .none)only[push_cast,zab,seval]);first|done|(simp[zbp,zd7,zb6, *];done)|(simp_all[zbp,zd7,zb6];done))|(refine zar rfl ?_;(try simp(etaStruct := .none)only[push_cast,zab,seval]);(try simp[zbp,zd7,zb6, *]);(try exact wkc)))
  ·try refine xst ?_
   (first|(refine zar rfl (Wk.of ?_);(try simp(etaStruct := .none)only[push_cast,zab,seval]);first|done|(simp[zbp,zd7,zb6, *];done)|(simp_all[zbp,zd7,zb6];done))|(refine zar rfl ?_;(try simp(etaStruct := .none)only[push_cast,zab,seval]);(try simp[zbp,zd7,zb6, *]);(try exact wkc)))
def inF (f:Fld) (c:Cel):Bool:=zap c.x 0 (f.w-1)&&zap c.y 0 (f.h-1)
theorem inF_iff {f:Fld} {c:Cel} : inF f c=true↔(0≤c.x∧c.x<f.w)∧(0≤c.y∧c.y<f.h):=by
 unfold inF;rw[Bool.and_eq_true,within_iff,within_iff];omega
theorem inF_f {f:Fld} {c:Cel} : inF f c=false↔¬((0≤c.x∧c.x<f.w)∧(0≤c.y∧c.y<f.h)):=by
 rw[←inF_iff,Bool.not_eq_true]
def zag (f:Fld) (c:Cel):Int:=f.p.getD (c.y*f.w+c.x).toNat default
theorem za8 {f:Fld} {c:Cel} (h:zbp f=0) (hc:inF f c=true):0≤c.y*f.w∧c.y*f.w≤1600∧0≤c.y*f.w+c.x∧c.y*f.w+c.x<f.p.length∧f.p.length≤1600:=by
 obtain⟨h1,h2,h3,_⟩:=zba h
 obtain⟨h4,h5⟩:=inF_iff.1 hc
 have a1:0≤c.y*f.w:=Int.mul_nonneg (by omega) (by omega)
 have a2:c.y*f.w≤(f.h-1)*f.w:=Int.mul_le_mul_of_nonneg_right (by omega) (by omega)
 have a3:(f.h-1)*f.w=f.w*f.h-f.w:=by rw[Int.sub_mul,Int.mul_comm f.h,Int.one_mul]
 have a4:f.w*f.h≤40*40:=Int.mul_le_mul h1.2 h2.2 (by omega) (by omega)
 omega
def atV (f:Fld) (c:Cel):Int × Int:=if zbp f≠0 then (0,zbp f)else if inF f c then (zag f c,0)else (0,7)
theorem zzk (f:Fld) (c:Cel) (hl:f.p.length≤9223372036854775807):Spec Tryz.prog 186 [znh f,zem c] [] (.tup [I .i64 (atV f c).1,I .i64 (atV f c).2]) []:=by
 refine spB Tryz.func186 46 [.tmp 4,.tmp 5] Tryz.results186 ?_
 try refine xst ?_
 refine caP (zxe f hl) ?_
 try refine xst ?_
 refine cI (fun h1 => ?_) fun h1 => ?_
 ·try refine xst ?_
  (first|(refine zar rfl (Wk.of ?_);(try simp(etaStruct := .none)only[push_cast,zab,seval]);first|done|(simp[atV,zag, *];done)|(simp_all[atV,zag];done))|(refine zar rfl ?_;(try simp(etaStruct := .none)only[push_cast,zab,seval]);(try simp[atV,zag, *]);(try exact wkc)))
 ·obtain⟨e1,e2,e3,e4⟩:=zba h1
  try refine xst ?_
  refine cI (fun h2 => ?_) fun h2 => ?_
  ·have hc:inF f c=false:=inF_f.2 (by omega)
   try refine xst ?_
   (first|(refine zar rfl (Wk.of ?_);(try simp(etaStruct := .none)only[push_cast,zab,seval]);first|done|(simp[atV,zag, *];done)|(simp_all[atV,zag];done))|(refine zar rfl ?_;(try simp(etaStruct := .none)only[push_cast,zab,seval]);(try simp[atV,zag, *]);(try exact wkc)))
  ·have hc:inF f c=true:=inF_iff.2 (by omega)
   obtain⟨i1,i2,i3,i4,i5⟩:=za8 h1 hc
   try refine xz2 (gd (show (c.y*f.w+c.x).toNat<f.p.length by omega)) zak ?_
   (first|(refine zar rfl (Wk.of ?_);(try simp(etaStruct := .none)only[push_cast,zab,seval]);first|done|(simp[atV,zag, *];done)|(simp_all[atV,zag];done))|(refine zar rfl ?_;(try simp(etaStruct := .none)only[push_cast,zab,seval]);(try simp[atV,zag, *]);(try exact wkc)))
theorem z27 {f:Fld} (h1:zd7 f=false) {i:Nat} (hi:i<f.p.length) (h:zap (f.p.getD i default) 0 3=false):zbp f=4:=by
 have:zb6 f=true:=by
  unfold zb6
  rw[Bool.or_eq_true]
  refine .inr (List.any_eq_true.2 ⟨_,List.getElem_mem hi,?_⟩)
  rw[zad _ _ hi,within_f]at h
  simp;omega
 unfold zbp;rw[h1,this];rfl
theorem z28 {f:Fld} (h1:zd7 f=false) (h2:(f.p.length:Int)=f.w*f.h) (h:∀j,j<f.p.length→zap (f.p.getD j default) 0 3=true):zbp f=0:=by
 have:zb6 f=false:=by
  unfold zb6
  rw[Bool.or_eq_false_iff,List.any_eq_false]
  refine⟨by simp[h2],fun p hp => ?_⟩
  obtain⟨i,hi,rfl⟩:=List.getElem_of_mem hp
  have:=h i hi
  rw[zad _ _ hi,within_iff]at this
  simp;omega
 unfold zbp;rw[h1,this];rfl
theorem zqa (f:Fld) (hl:f.p.length≤9223372036854775807):Spec Tryz.prog 62 [znh f] [] (I .i64 (zbp f)) []:=by
 refine spB Tryz.func62 35 [.tmp 2] Tryz.results62 ?_
 try refine xst ?_
 refine caP (zay f.w 1 40) ?_
 try refine xst ?_
 refine gcP (fun hcc=>zay f.h 1 40) ?_
 try refine xst ?_
 refine cI (fun h1 => ?_) fun h1 => ?_
 ·have hb:zd7 f=true:=by unfold zd7;simpa using h1
  try refine xst ?_
  (first|(refine zar rfl (Wk.of ?_);(try simp(etaStruct := .none)only[push_cast,zab,seval]);first|done|(simp[zbp,zb6, *];done)|(simp_all[zbp,zb6];done))|(refine zar rfl ?_;(try simp(etaStruct := .none)only[push_cast,zab,seval]);(try simp[zbp,zb6, *]);(try exact wkc)))
 ·have hb:zd7 f=false:=by unfold zd7;simpa using h1
  have hw:zap f.w 1 40=true∧zap f.h 1 40=true:=by simpa using h1
  obtain⟨h3,h4⟩:=hw
  rw[within_iff]at h3 h4
  have hm1:0≤f.w*f.h:=Int.mul_nonneg (by omega) (by omega)
  have hm2:f.w*f.h≤40*40:=Int.mul_le_mul h3.2 h4.2 (by omega) (by omega)
  try refine xst ?_
  refine cI (fun h2 => ?_) fun h2 => ?_
  ·try refine xst ?_
   (first|(refine zar rfl (Wk.of ?_);(try simp(etaStruct := .none)only[push_cast,zab,seval]);first|done|(simp[zbp,zb6, *];done)|(simp_all[zbp,zb6];done))|(refine zar rfl ?_;(try simp(etaStruct := .none)only[push_cast,zab,seval]);(try simp[zbp,zb6, *]);(try exact wkc)))
  ·try refine xst ?_
   refine zas (fun k:Nat=>⟨[(27,I .i64 k),(26,I .i64 f.p.length),(25,.c (.sl 1 (f.p.map zac)))],[],0⟩) (fun k:Nat=>k≤f.p.length∧∀j,j<k→zap (f.p.getD j default) 0 3=true) (fun k:Nat=>f.p.length-k) (0) (⟨Nat.zero_le _,fun j h=>by omega⟩) (To.mk [] rfl rfl List.nodup_nil trivial ?_) ?_
   ·simp(etaStruct := .none)only[push_cast,zab,seval]
   rintro k ⟨hk,hn⟩
   try refine xst ?_
   refine cI (fun h3 => ?_) fun h3 => ?_
   ·have hlt:k<f.p.length:=by omega
    try refine xz2 (gd hlt) zak ?_
    refine caP (zay (f.p.getD k default) 0 3) ?_
    try refine xz2 (gd hlt) zak ?_
    refine cI (fun h4 => ?_) fun h4 => ?_
    ·try refine xz2 (gd hlt) zak ?_
     exact zbe rfl trivial (Wk.of (by rw[z27 hb hlt (by simpa using h4)];rfl))
    ·try refine xz2 (gd hlt) zak ?_
     refine⟨k+1,⟨by omega,fun j hj=>by rcases Nat.lt_or_ge j k with h|h;exact hn j h;rw[show j=k by omega];simpa using h4⟩,by omega,To.mk [] rfl rfl List.nodup_nil trivial ?_⟩
     ·(try(refine xz2 (gd hlt) zak ?_;try exact xtI))
   ·try refine xst ?_
    exact zbe rfl trivial (Wk.of (by rw[z28 hb (by omega) (fun j hj=>hn j (by omega))];rfl))
theorem yjo (f:Fld) (c:Cel) (hw:0≤f.w∧f.w≤1000000) (hh:0≤f.h∧f.h≤1000000):Spec Tryz.prog 102 [znh f,zem c] [] (B (inF f c)) []:=by
 refine spB Tryz.func102 19 [.tmp 4] Tryz.results102 ?_
 try refine xst ?_
 refine caP (zay c.x 0 (f.w-1)) ?_
 try refine xst ?_
 refine gcP (fun hcc=>zay c.y 0 (f.h-1)) ?_
 try refine xst ?_
 (first|(refine zar rfl (Wk.of ?_);(try simp(etaStruct := .none)only[push_cast,zab,seval]);first|done|(simp[inF, *];done)|(simp_all[inF];done))|(refine zar rfl ?_;(try simp(etaStruct := .none)only[push_cast,zab,seval]);(try simp[inF, *]);(try exact wkc)))
theorem zjw (f:Fld) (c:Cel) (h:zbp f=0) (hc:inF f c=true):Spec Tryz.prog 103 [znh f,zem c] [] (I .i64 (zag f c)) []:=by
 obtain⟨i1,i2,i3,i4,i5⟩:=za8 h hc
 have j1:=inF_iff.1 hc
 obtain⟨e1,e2,e3,e4⟩:=zba h
 refine spB Tryz.func103 17 [.tmp 4] Tryz.results103 ?_
 try refine xz2 (gd (show (c.y*f.w+c.x).toNat<f.p.length by omega)) zak ?_
 (first|(refine zar rfl (Wk.of ?_);(try simp(etaStruct := .none)only[push_cast,zab,seval]);first|done|(simp[zag, *];done)|(simp_all[zag];done))|(refine zar rfl ?_;(try simp(etaStruct := .none)only[push_cast,zab,seval]);(try simp[zag, *]);(try exact wkc)))
end Go.Proofs.YtbapdgmcndgieaaGreat
namespace Go.Proofs.YtbapdgmcndgieaaGreat
set_option linter.all false
open Go.RowKit
set_option maxRecDepth 100000
set_option maxHeartbeats 400000
def zfi (q:Int):Int × Int:=if q=0∨q=3 then (2,0)else if q=2 then (3,0)else if q=1 then (0,9)else (0,1)
theorem yf3 (q:Int):Spec Tryz.prog 202 [I .i64 q] [] (.tup [I .i64 (zfi q).1,I .i64 (zfi q).2]) []:=by
 refine spB Tryz.func202 12 [.tmp 2,.tmp 3] Tryz.results202 ?_
 try refine xst ?_
 refine cI (fun h1 => ?_) fun h1 => ?_
 ·try refine xst ?_
  refine cI (fun h2 => ?_) fun h2 => ?_
  ·try refine xst ?_
   (first|(refine zar rfl (Wk.of ?_);(try simp(etaStruct := .none)only[push_cast,zab,seval]);first|done|(simp[zfi, *];done)|(simp_all[zfi];done))|(refine zar rfl ?_;(try simp(etaStruct := .none)only[push_cast,zab,seval]);(try simp[zfi, *]);(try exact wkc)))
  ·exact absurd h1 h2
 ·try refine xst ?_
  refine cI (fun h3 => ?_) fun h3 => ?_
  ·try refine xst ?_
   (first|(refine zar rfl (Wk.of ?_);(try simp(etaStruct := .none)only[push_cast,zab,seval]);first|done|(simp[zfi, *];done)|(simp_all[zfi];done))|(refine zar rfl ?_;(try simp(etaStruct := .none)only[push_cast,zab,seval]);(try simp[zfi, *]);(try exact wkc)))
  ·try refine xst ?_
   refine cI (fun h4 => ?_) fun h4 => ?_
   ·try refine xst ?_
    (first|(refine zar rfl (Wk.of ?_);(try simp(etaStruct := .none)only[push_cast,zab,seval]);first|done|(simp[zfi, *];done)|(simp_all[zfi];done))|(refine zar rfl ?_;(try simp(etaStruct := .none)only[push_cast,zab,seval]);(try simp[zfi, *]);(try exact wkc)))
   ·try refine xst ?_
    refine cI (fun h5 => ?_) fun h5 => ?_
    ·try refine xst ?_
     (first|(refine zar rfl (Wk.of ?_);(try simp(etaStruct := .none)only[push_cast,zab,seval]);first|done|(simp[zfi, *];done)|(simp_all[zfi];done))|(refine zar rfl ?_;(try simp(etaStruct := .none)only[push_cast,zab,seval]);(try simp[zfi, *]);(try exact wkc)))
    ·try refine xst ?_
     (first|(refine zar rfl (Wk.of ?_);(try simp(etaStruct := .none)only[push_cast,zab,seval]);first|done|(simp[zfi, *];done)|(simp_all[zfi];done))|(refine zar rfl ?_;(try simp(etaStruct := .none)only[push_cast,zab,seval]);(try simp[zfi, *]);(try exact wkc)))
theorem zxj (q:Int) (h:0≤q∧q<4):Spec Tryz.prog 157 [I .i64 q] [] (I .i64 (if q=1 then -1 else kV q)) []:=by
 have hg:([[pI 2],[pI (-1)],[pI 3],[pI 2]]:List (List PV)).getD q.toNat [] = [pI (if q=1 then -1 else kV q)]:=by
  have:q=0∨q=1∨q=2∨q=3:=by omega
  rcases this with rfl|rfl|rfl|rfl<;>rfl
 refine spB Tryz.func157 7 [.tmp 2] Tryz.results157 ?_
 try refine xz1 hg ?_
 exact xrz rfl
def zau (f:Fld) (c:Cel):Nat:=(c.y*f.w+c.x).toNat
def z39 (f:Fld):List Cel→Int
 | []=>0
 | c::r=>if inF f c then (if zag f c=1 then 9 else z39 f r)else 7
def zez (f:Fld) (l:List Cel):Int:=if zbp f≠0 then zbp f else if 100<l.length then 2 else z39 f l
def zai (f:Fld) (l:List Cel) (R:List Int):Prop:=(zez f l=0→∀far,Flood f.w.toNat f.p (l.map (zau f)) far→R=far)∧(zez f l≠0→R = [])∧R.length≤f.p.length
theorem zxb (f:Fld) (l:List Cel):∃R,zai f l R:=by
 by_cases h:zez f l=0∧∃far,Flood f.w.toNat f.p (l.map (zau f)) far
 ·obtain⟨h1,far,hf⟩:=h
  exact⟨far,fun _ g hg=>hf.uniq hg,fun h=>absurd h1 h,by rw[hf.len];exact Nat.le_refl _⟩
 ·exact⟨[],fun h0 far hf=>absurd ⟨h0,far,hf⟩ h,fun _=>rfl,Nat.zero_le _⟩
theorem zo0 {f:Fld} : ∀ {l:List Cel} (k:Nat),k<l.length→(∀j,j<k→inF f (l.getD j default)=true∧zag f (l.getD j default)≠1)→¬(inF f (l.getD k default)=true∧zag f (l.getD k default)≠1)→z39 f l=if inF f (l.getD k default)then 9 else 7
 | [],k,h,_,_=>by simp at h
 | c::r,0,h,_,hb=>by
  simp only[List.getD_cons_zero]at hb ⊢
  unfold z39
  by_cases h1:inF f c=true
  ·rw[if_pos h1,if_pos h1,if_pos];by_cases h2:zag f c=1
   ·exact h2
   ·exact absurd ⟨h1,h2⟩ hb
  ·rw[if_neg h1,if_neg h1]
 | c::r,k+1,h,ha,hb=>by
  simp only[List.getD_cons_succ]at hb ⊢
  have h0:=ha 0 (by omega)
  simp only[List.getD_cons_zero]at h0
  unfold z39
  rw[if_pos h0.1,if_neg h0.2]
  exact zo0 k (by simpa using h) (fun j hj=>by have:=ha (j+1) (by omega);simpa using this) hb
theorem z0l {f:Fld} : ∀ {l:List Cel},(∀j,j<l.length→inF f (l.getD j default)=true∧zag f (l.getD j default)≠1)→z39 f l=0
 | [],_=>rfl
 | c::r,ha=>by
  have h0:=ha 0 (by simp)
  simp only[List.getD_cons_zero]at h0
  unfold z39
  rw[if_pos h0.1,if_neg h0.2]
  exact z0l (fun j hj=>by have:=ha (j+1) (by simpa using hj);simpa using this)
abbrev z6v (f:Fld):List AV := [I .i64 f.w,I .i64 f.h,.c (.sl 1 (f.p.map zac))]
theorem z64 {q:Int} (h:0≤q∧q<4):(q=1∧zfi q=(0,9))∨(q≠1∧zfi q=(kV q,0)):=by
 have:q=0∨q=1∨q=2∨q=3:=by omega
 rcases this with rfl|rfl|rfl|rfl
 ·exact .inr ⟨by decide,rfl⟩
 ·exact .inl ⟨rfl,rfl⟩
 ·exact .inr ⟨by decide,rfl⟩
 ·exact .inr ⟨by decide,rfl⟩
end Go.Proofs.YtbapdgmcndgieaaGreat
namespace Go.Proofs.YtbapdgmcndgieaaGreat
set_option linter.all false
open Go.RowKit
set_option maxRecDepth 100000
theorem zyw (f:Fld) (c:Cel) (h:zbp f=0):Spec Tryz.prog 102 [znh f,zem c] [] (B (inF f c)) []:=by
 have:=zba h
 exact yjo f c (by omega) (by omega)
end Go.Proofs.YtbapdgmcndgieaaGreat
namespace Go.Proofs.YtbapdgmcndgieaaGreat
set_option linter.all false
open Go.RowKit
set_option maxRecDepth 100000
set_option maxHeartbeats 400000
def zaf (c:Cel):List Cel := [⟨c.x,c.y-1⟩,⟨c.x-1,c.y⟩,⟨c.x+1,c.y⟩,⟨c.x,c.y+1⟩]
def zb0 (f:Fld) (c:Cel):List Cel:=(zaf c).filter (inF f)
theorem zs7 (f:Fld) (c:Cel) (k:Nat) (h:k<(zaf c).length):((zaf c).take (k+1)).filter (inF f)=((zaf c).take k).filter (inF f)++(if inF f ((zaf c).getD k default)then [(zaf c).getD k default]else []):=by
 rw[zav _ _ h,List.filter_append,List.filter_cons,List.filter_nil]
theorem zs6 (f:Fld) (c:Cel) (h:zbp f=0) (hx : -1000000≤c.x∧c.x≤1000000) (hy : -1000000≤c.y∧c.y≤1000000):Spec Tryz.prog 154 [znh f,zem c] [] (.c (.sl 2 ((zb0 f c).map zaz))) []:=by
 have h4:(zaf c).length=4:=rfl
 refine spB Tryz.func154 47 [.tmp 4] Tryz.results154 ?_
 try refine xst ?_
 refine zas (fun k:Nat=>⟨[(34,I .i64 k),(33,I .i64 4),(32,.own 1),(5,.own 2),(2,.ptr 0 0 0)],[(0,.blk 24 (z6v f)),(1,.row 41 2 ((zaf c).map zaz)),(2,.row 41 2 ((((zaf c).take k).filter (inF f)).map zaz))],3⟩) (fun k:Nat=>k≤4) (fun k:Nat=>4-k) (0) (Nat.zero_le _) ((To.nil 5 41 2 rfl).trans (To.mk [0,2,3] rfl rfl (by decide) ?_ ?_)) ?_
 ·simp(etaStruct := .none)only[push_cast,zab,seval,zaf,zaz,List.filter_nil,List.take_zero]
 ·simp(etaStruct := .none)only[push_cast,zab,seval]
 rintro k hk
 try refine xst ?_
 refine cI (fun h1 => ?_) fun h1 => ?_
 ·have hlt:k<(zaf c).length:=by omega
  have st:=zs7 f c k hlt
  have hfl:(((zaf c).take k).filter (inF f)).length≤4:=by have:=List.length_filter_le (inF f) ((zaf c).take k);rw[List.length_take]at this;omega
  try refine xz2 (gd hlt) zao ?_
  refine caP (zyw f ((zaf c).getD k default) h) ?_
  try refine xz2 (gd hlt) zao ?_
  refine cI (fun h2 => ?_) fun h2 => ?_
  ·rw[if_pos h2]at st
   try refine xz2 (gd hlt) zao ?_
   refine⟨k+1,by omega,by omega,To.mk [0,1,5] rfl rfl (by decide) ?_ ?_⟩
   ·(iterate 2((try simp(etaStruct := .none)only[push_cast,zab,seval,st,List.map_append,zaz]);(try(refine xsu ?_;try exact xtI))))
   ·(try(refine xz2 (gd hlt) zao ?_;try exact xtI))
  ·rw[if_neg (by rw[h2];decide),List.append_nil]at st
   try refine xz2 (gd hlt) zao ?_
   refine⟨k+1,by omega,by omega,To.mk [0,1,2] rfl rfl (by decide) ?_ ?_⟩
   ·(try(refine xz1 st ?_;try exact xtI))
   ·(try(refine xz2 (gd hlt) zao ?_;try exact xtI))
 ·obtain rfl:k=4:=by omega
  have ht:(zaf c).take 4=zaf c:=rfl
  try refine xz1 ht ?_
  (first|(refine zar rfl (Wk.of ?_);(try simp(etaStruct := .none)only[push_cast,zab,seval]);first|done|(simp[zb0, *];done)|(simp_all[zb0];done))|(refine zar rfl ?_;(try simp(etaStruct := .none)only[push_cast,zab,seval]);(try simp[zb0, *]);(try exact wkc)))
theorem zkg (f:Fld) {W H i:Nat} (hw:f.w=(W:Int)) (hh:f.h=(H:Int)) (hW:0<W) (hi:i<W*H):(zb0 f ⟨((i % W:Nat):Int),((i/W:Nat):Int)⟩).map (zau f)=zdd W H i∧∀n∈zb0 f ⟨((i % W:Nat):Int),((i/W:Nat):Int)⟩,inF f n=true:=by
 refine⟨?_,fun n hn=>(List.mem_filter.1 hn).2⟩
 have h1:=Nat.div_add_mod i W
 have h2:=Nat.mod_lt i hW
 have h3:i/W<H:=by rw[Nat.div_lt_iff_lt_mul hW,Nat.mul_comm];exact hi
 unfold zb0 zdd zaf
 generalize i % W=x at *
 generalize i/W=y at *
 have a1:inF f ⟨(x:Int),(y:Int)-1⟩=decide (0<y):=by
  rw[Bool.eq_iff_iff,inF_iff,decide_eq_true_eq,hw,hh];simp only;omega
 have a2:inF f ⟨(x:Int)-1,(y:Int)⟩=decide (0<x):=by
  rw[Bool.eq_iff_iff,inF_iff,decide_eq_true_eq,hw,hh];simp only;omega
 have a3:inF f ⟨(x:Int)+1,(y:Int)⟩=decide (x+1<W):=by
  rw[Bool.eq_iff_iff,inF_iff,decide_eq_true_eq,hw,hh];simp only;omega
 have a4:inF f ⟨(x:Int),(y:Int)+1⟩=decide (y+1<H):=by
  rw[Bool.eq_iff_iff,inF_iff,decide_eq_true_eq,hw,hh];simp only;omega
 have hyW:(y:Int)*(W:Int)=((W*y:Nat):Int):=by rw[Nat.mul_comm,Int.natCast_mul]
 have b1:0<y→zau f ⟨(x:Int),(y:Int)-1⟩=i-W:=fun h=>by
  unfold zau;simp only;rw[hw,Int.sub_mul,hyW,Int.one_mul]
  have:W*1≤W*y:=Nat.mul_le_mul_left _ h
  omega
 have b2:0<x→zau f ⟨(x:Int)-1,(y:Int)⟩=i-1:=fun h=>by
  unfold zau;simp only;rw[hw,hyW];omega
 have b3:zau f ⟨(x:Int)+1,(y:Int)⟩=i+1:=by
  unfold zau;simp only;rw[hw,hyW];omega
 have b4:zau f ⟨(x:Int),(y:Int)+1⟩=i+W:=by
  unfold zau;simp only;rw[hw,Int.add_mul,hyW,Int.one_mul];omega
 simp only[List.filter_cons,List.filter_nil,a1,a2,a3,a4,decide_eq_true_eq]
 by_cases c1:0<y<;>by_cases c2:0<x<;>by_cases c3:x+1<W<;>by_cases c4:y+1<H<;>simp only[c1,c2,c3,c4,if_true,if_false,List.map_cons,List.map_nil,b3,b4,List.nil_append,List.cons_append,List.append_nil]<;>(first|rw[b1 c1,b2 c2]|rw[b1 c1]|rw[b2 c2]|rfl)
theorem z6t (f:Fld) (l:List Cel) (R:List Int) (hR:zai f l R) (hf:f.p.length≤9223372036854775807) (hl:l.length≤9223372036854775807):Spec Tryz.prog 152 [znh f,.c (.sl 2 (l.map zaz))] [] (.tup [.c (.sl 1 (R.map zac)),I .i64 (zez f l)]) []:=by
 refine spB Tryz.func152 134 [.tmp 4,.tmp 5] Tryz.results152 ?_
 try refine xst ?_
 refine caP (zqa f hf) ?_
 try refine xst ?_
 refine cI (fun h1 => ?_) fun h1 => ?_
 ·have e:zez f l=zbp f:=by unfold zez;rw[if_pos h1]
  have e2:R = []:=hR.2.1 (by rw[e];exact h1)
  try refine xst ?_
  (first|(refine zar rfl (Wk.of ?_);(try simp(etaStruct := .none)only[push_cast,zab,seval]);first|done|(simp[e,e2, *];done)|(simp_all[e,e2];done))|(refine zar rfl ?_;(try simp(etaStruct := .none)only[push_cast,zab,seval]);(try simp[e,e2, *]);(try exact wkc)))
 ·obtain⟨⟨w1,w2⟩,⟨w3,w4⟩,wl,wp⟩:=zba h1
  obtain⟨W,hW⟩:∃W:Nat,f.w=(W:Int):=Int.eq_ofNat_of_zero_le (by omega)
  obtain⟨H,hH⟩:∃H:Nat,f.h=(H:Int):=Int.eq_ofNat_of_zero_le (by omega)
  have hWH:f.p.length=W*H:=by rw[hW,hH]at wl;exact_mod_cast wl
  have hm:W*H≤40*40:=Nat.mul_le_mul (by omega) (by omega)
  try refine xst ?_
  refine cI (fun h2 => ?_) fun h2 => ?_
  ·have e:zez f l=2:=by unfold zez;rw[if_neg (by simpa using h1),if_pos (by omega)]
   have e2:R = []:=hR.2.1 (by rw[e];decide)
   try refine xst ?_
   (first|(refine zar rfl (Wk.of ?_);(try simp(etaStruct := .none)only[push_cast,zab,seval]);first|done|(simp[e,e2, *];done)|(simp_all[e,e2];done))|(refine zar rfl ?_;(try simp(etaStruct := .none)only[push_cast,zab,seval]);(try simp[e,e2, *]);(try exact wkc)))
  ·have eF:zez f l=z39 f l:=by unfold zez;rw[if_neg (by simpa using h1),if_neg (by omega)]
   try refine xst ?_
   refine zas (fun k:Nat=>⟨[(31,I .i64 k),(30,I .i64 f.p.length),(7,.own 1),(2,.ptr 0 0 0),(1,.c (.sl 2 (l.map zaz)))],[(0,.blk 24 (z6v f)),(1,.row 3 1 ((zgs (fun _=>(-1:Int)) k (List.replicate f.p.length 0)).map zac))],2⟩) (fun k:Nat=>k≤f.p.length) (fun k:Nat=>f.p.length-k) (0) (Nat.zero_le _) (To.mk [0,1] rfl rfl (by decide) ?_ ?_) ?_
   ·simp(etaStruct := .none)only[push_cast,zab,seval,z1d,List.map_replicate,List.length_replicate,zac]
   ·simp(etaStruct := .none)only[push_cast,zab,seval,List.length_replicate]
   rintro k hk
   have hpl:=zcp (fun _=>(-1:Int)) k (List.replicate f.p.length 0)
   rw[List.length_replicate]at hpl
   try refine xst ?_
   refine cI (fun h3 => ?_) fun h3 => ?_
   ·have hlt:k<f.p.length:=by omega
    have hs:=zhd (fun _=>(-1:Int)) k (List.replicate f.p.length 0) (by rw[List.length_replicate];exact hlt)
    try refine xst ?_
    refine⟨k+1,by omega,by omega,To.mk [0,1] rfl rfl (by decide) ?_ ?_⟩
    ·(iterate 2((try simp(etaStruct := .none)only[push_cast,zab,seval,hs,List.map_set,zac]);(try(refine xsu ?_;try exact xtI))))
    ·(try(refine xst ?_;try exact xtI))
   ·obtain rfl:k=f.p.length:=by omega
    have hall:=zbs (fun _=>(-1:Int)) (List.replicate f.p.length 0)
    rw[List.length_replicate,List.map_replicate]at hall
    try refine xst ?_
    refine zas (fun x:Nat × List Int=>⟨[(40,I .i64 x.1),(39,I .i64 l.length),(38,.c (.sl 2 (l.map zaz))),(7,.own 1),(2,.ptr 0 0 0)],[(0,.blk 24 (z6v f)),(1,.row 3 1 (x.2.map zac))],2⟩) (fun x:Nat × List Int=>x.1≤l.length∧x.2.length=f.p.length∧(∀p,p<f.p.length→(p∈(l.take x.1).map (zau f)∧x.2.getD p default=0)∨(p∉(l.take x.1).map (zau f)∧x.2.getD p default = -1))∧∀j,j<x.1→inF f (l.getD j default)=true∧zag f (l.getD j default)≠1) (fun x:Nat × List Int=>l.length-x.1) ((0,List.replicate f.p.length (-1))) (⟨Nat.zero_le _,by simp,fun p hp => .inr ⟨by simp,zp8 _ _ hp⟩,fun j h=>absurd h (Nat.not_lt_zero _)⟩) (To.mk [0,1] rfl rfl (by decide) ?_ ?_) ?_
    ·simp(etaStruct := .none)only[push_cast,zab,seval,hall]
    ·simp(etaStruct := .none)only[push_cast,zab,seval]
    rintro⟨k,far⟩ ⟨hk,hfl,hfar,hgood⟩
    simp only at hk hfl hfar hgood
    try refine xst ?_
    refine zal (fun h4 => ?_) (fun h4 => ?_)
    ·(try replace h4:=xhh h4)
     have hlt:k<l.length:=by omega
     try refine xz2 (gd hlt) zao ?_
     refine caP (zyw f (l.getD k default) h1) ?_
     try refine xz2 (gd hlt) zao ?_
     refine cI (fun h5 => ?_) fun h5 => ?_
     ·have e:zez f l=7:=by rw[eF,zo0 k hlt hgood (fun h=>by rw[h5]at h;exact absurd h.1 (by decide)),if_neg (by rw[h5];decide)]
      have e2:R = []:=hR.2.1 (by rw[e];decide)
      try refine xz2 (gd hlt) zao ?_
      (first|(refine zar rfl (Wk.of ?_);(try simp(etaStruct := .none)only[push_cast,zab,seval]);first|done|(simp[e,e2, *];done)|(simp_all[e,e2];done))|(refine zar rfl ?_;(try simp(etaStruct := .none)only[push_cast,zab,seval]);(try simp[e,e2, *]);(try exact wkc)))
     ·obtain⟨i1,i2,i3,i4,i5⟩:=za8 h1 h5
      try refine xz2 (gd hlt) zao ?_
      refine caP (zjw f (l.getD k default) h1 h5) ?_
      try refine xz2 (gd hlt) zao ?_
      refine cI (fun h6 => ?_) fun h6 => ?_
      ·have e:zez f l=9:=by rw[eF,zo0 k hlt hgood (fun h=>h.2 h6),if_pos h5]
       have e2:R = []:=hR.2.1 (by rw[e];decide)
       try refine xz2 (gd hlt) zao ?_
       (first|(refine zar rfl (Wk.of ?_);(try simp(etaStruct := .none)only[push_cast,zab,seval]);first|done|(simp[e,e2, *];done)|(simp_all[e,e2];done))|(refine zar rfl ?_;(try simp(etaStruct := .none)only[push_cast,zab,seval]);(try simp[e,e2, *]);(try exact wkc)))
      ·obtain⟨m,hm2⟩:∃m,m=zau f (l.getD k default):=⟨_,rfl⟩
       have hmi:(l.getD k default).y*f.w+(l.getD k default).x=(m:Int):=by rw[hm2];unfold zau;omega
       have ew1:IntKind.i64.wrap (IntKind.i64.wrap ((l.getD k default).y*f.w)+(l.getD k default).x)=(m:Int):=by rw[zaq ((l.getD k default).y*f.w) (by omega) (by omega),zaq _ (by omega) (by omega)];exact hmi
       have hml:m<far.length:=by omega
       iterate 2(try simp(etaStruct := .none)only[push_cast,zab,seval,zaa _ _ _ hlt,zaz,ew1,zaa _ _ _ hml,List.length_map];try refine xsu ?_)
       refine⟨(k+1,far.set m 0),⟨by simp only;omega,by simp only[List.length_set];exact hfl,fun p hp=>by
 simp only
 rw[zav _ _ hlt,List.map_append,List.map_cons,List.map_nil,←hm2,zlq _ _ hml,List.mem_append,List.mem_singleton]
 by_cases e:p=m
 ·rw[if_pos e];exact .inl ⟨.inr e,rfl⟩
 ·rw[if_neg e]
  rcases hfar p hp with h|h
  ·exact .inl ⟨.inl h.1,h.2⟩
  ·exact .inr ⟨fun h'=>by rcases h' with h'|h';exact h.1 h';exact e h',h.2⟩,fun j hj=>by
 simp only at hj
 rcases Nat.lt_or_ge j k with h|h
 ·exact hgood j h
 ·rw [show j = k by omega]; exact ⟨h5, h6⟩⟩, by simp only; omega, To.mk [0, 1] rfl rfl (by decide) ?_ ?_⟩
       ·(iterate 2((try simp(etaStruct := .none)only[push_cast,zab,seval,List.map_set,zac]);(try(refine xsu ?_;try exact xtI))))
       ·(iterate 2((try simp(etaStruct := .none)only[push_cast,zab,seval,zaa _ _ _ hlt,zaz,ew1,zaa _ _ _ hml,List.length_map]);(try(refine xsu ?_;try exact xtI))))
    ·(try replace h4:=xhh h4)
     obtain rfl:k=l.length:=by omega
     rw[List.take_length]at hfar
     have e:zez f l=0:=by rw[eF];exact z0l hgood
     have hst:Bf W f.p (l.map (zau f)) far:=by
      refine⟨hfl,fun p hp => ?_,fun p hp => ?_,fun p hp h0 => ?_,fun p hp => ?_⟩
      ·rcases hfar p hp with h|h<;>rw[h.2]<;>omega
      ·obtain⟨c,hc,rfl⟩:=List.mem_map.1 hp
       obtain⟨j,hj,rfl⟩:=mem_getD.1 hc
       have:=za8 h1 (hgood j hj).1
       rcases hfar (zau f (l.getD j default)) (by unfold zau;omega)with h|h
       ·exact h.2
       ·exact absurd hp h.1
      ·rcases hfar p hp with h|h
       ·exact .inl h
       ·rw[h.2]at h0;omega
      ·rcases hfar p hp with h|h<;>rw[h.2]<;>omega
     try refine xst ?_
     refine zas (fun x:List Int × Bool=>⟨[(11,B x.2),(7,.own 1),(2,.ptr 0 0 0)],[(0,.blk 24 (z6v f)),(1,.row 3 1 (x.1.map zac))],2⟩) (fun x:List Int × Bool=>Bf W f.p (l.map (zau f)) x.1∧(x.2=false→∀i n,i<f.p.length→n<f.p.length→Adj W i n→zzh f.p x.1 i n)) (fun x:List Int × Bool=>2*zhr zu4 x.1+(if x.2 then 1 else 0)) ((far,true)) (⟨hst,fun h=>by simp at h⟩) (To.mk [0,1] rfl rfl (by decide) ?_ ?_) ?_
     ·simp(etaStruct := .none)only[push_cast,zab,seval]
     ·simp(etaStruct := .none)only[push_cast,zab,seval]
     rintro⟨far0,b0⟩ ⟨hB,hfine⟩
     simp only at hB hfine
     have hfl0:=hB.len
     try refine xst ?_
     refine zal (fun h7 => ?_) (fun h7 => ?_)
     ·(try replace h7:=xhh h7)
      try refine xst ?_
      refine zas (fun x:Nat × List Int × Bool=>⟨[(66,I .i64 x.1),(65,I .i64 f.p.length),(11,B x.2.2),(7,.own 1),(2,.ptr 0 0 0)],[(0,.blk 24 (z6v f)),(1,.row 3 1 (x.2.1.map zac))],2⟩) (fun x:Nat × List Int × Bool=>x.1≤f.p.length∧Bf W f.p (l.map (zau f)) x.2.1∧((x.2.2=false∧x.2.1=far0∧∀i n,i<x.1→n<f.p.length→Adj W i n→zzh f.p x.2.1 i n)∨(x.2.2=true∧zhr zu4 x.2.1<zhr zu4 far0))) (fun x:Nat × List Int × Bool=>f.p.length-x.1) ((0,far0,false)) (⟨Nat.zero_le _,hB,.inl ⟨rfl,rfl,fun i n h=>absurd h (Nat.not_lt_zero _)⟩⟩) (To.mk [0,1] rfl rfl (by decide) ?_ ?_) ?_
      ·simp(etaStruct := .none)only[push_cast,zab,seval]
      ·simp(etaStruct := .none)only[push_cast,zab,seval,hfl0]
      rintro⟨i,far1,b1⟩ ⟨hi,hB1,hsw⟩
      simp only at hi hB1 hsw
      try refine xst ?_
      refine zal (fun h8 => ?_) (fun h8 => ?_)
      ·(try replace h8:=xhh h8)
       have hil:i<f.p.length:=by omega
       have hpr:=wp _ (za9 f.p i hil)
       obtain⟨cst,hcst⟩:∃cst:Int,cst=if f.p.getD i default=1 then -1 else kV (f.p.getD i default):=⟨_,rfl⟩
       have hkv:=zuh (f.p.getD i default)
       have hcb:(f.p.getD i default=1∧cst = -1)∨(f.p.getD i default≠1∧cst=kV (f.p.getD i default)):=by
        by_cases h:f.p.getD i default=1
        ·exact .inl ⟨h,by rw[hcst,if_pos h]⟩
        ·exact .inr ⟨h,by rw[hcst,if_neg h]⟩
       obtain⟨bm,bi⟩:=zkg f hW hH (by omega) (show i<W*H by omega)
       have bl:(zb0 f ⟨((i % W:Nat):Int),((i/W:Nat):Int)⟩).length=(zdd W H i).length:=by rw[←bm,List.length_map]
       have hx1:=Nat.mod_lt i (show 0<W by omega)
       have hy1:i/W≤i:=Nat.div_le_self _ _
       have ex:(i:Int).tmod f.w=((i % W:Nat):Int):=by rw[hW,Int.tmod_eq_emod_of_nonneg (by omega)];rfl
       have ey:IntKind.i64.wrap ((i:Int).tdiv f.w)=((i/W:Nat):Int):=by rw[hW,Int.tdiv_eq_ediv_of_nonneg (by omega)];change IntKind.i64.wrap ((i/W:Nat):Int)=_;exact zaq _ (by have:=Int.natCast_nonneg (i/W);omega) (by omega)
       obtain⟨cx,hcx⟩:∃cx:Nat,cx=i % W:=⟨_,rfl⟩
       obtain⟨cy,hcy⟩:∃cy:Nat,cy=i/W:=⟨_,rfl⟩
       rw[←hcx]at ex hx1
       rw[←hcy]at ey hy1
       rw[←hcx,←hcy]at bm bi bl
       have hbl:=zu5 W H i
       try refine xz5 hcst.symm ex ey (gd hil) zak ?_
       refine caP (zxj (f.p.getD i default) hpr) ?_
       try refine xz5 hcst.symm ex ey (gd hil) zak ?_
       refine caP (zs6 f ⟨(cx:Int),(cy:Int)⟩ h1 (by simp only;omega) (by simp only;omega)) ?_
       try refine xz5 hcst.symm ex ey (gd hil) zak ?_
       (try(refine⟨by kernel_rfl,?_⟩))
       try refine xz5 hcst.symm ex ey (gd hil) zak ?_
       refine zas (fun x:Nat × List Int × Bool=>⟨[(87,I .i64 x.1),(86,I .i64 (zb0 f ⟨(cx:Int),(cy:Int)⟩).length),(85,.c (.sl 2 ((zb0 f ⟨(cx:Int),(cy:Int)⟩).map zaz))),(66,I .i64 i),(65,I .i64 f.p.length),(13,I .i64 cst),(12,I .i64 i),(11,B x.2.2),(7,.own 1),(2,.ptr 0 0 0)],[(0,.blk 24 (z6v f)),(1,.row 3 1 (x.2.1.map zac))],2⟩) (fun x:Nat × List Int × Bool=>x.1≤(zdd W H i).length∧Bf W f.p (l.map (zau f)) x.2.1∧((x.2.2=false∧x.2.1=far0∧(∀i' n,i'<i→n<f.p.length→Adj W i' n→zzh f.p x.2.1 i' n)∧∀n∈(zdd W H i).take x.1,zzh f.p x.2.1 i n)∨(x.2.2=true∧zhr zu4 x.2.1<zhr zu4 far0))) (fun x:Nat × List Int × Bool=>(zdd W H i).length-x.1) ((0,far1,b1)) (⟨Nat.zero_le _,hB1,by
 rcases hsw with h|h
 ·exact .inl ⟨h.1,h.2.1,h.2.2,fun n hn=>by simp at hn⟩
 ·exact .inr h⟩) (To.mk [0, 1] rfl rfl (by decide) ?_ ?_) ?_
       ·simp(etaStruct := .none)only[push_cast,zab,seval]
       ·simp(etaStruct := .none)only[push_cast,zab,seval]
       rintro⟨k,far2,b2⟩ ⟨hk2,hB2,hsw2⟩
       simp only at hk2 hB2 hsw2
       have hfl2:=hB2.len
       try refine xz5 hcst.symm ex ey (gd hil) zak ?_
       refine zal (fun h9 => ?_) (fun h9 => ?_)
       ·(try replace h9:=xhh h9)
        have hlt2:k<(zdd W H i).length:=by omega
        have hlt3:k<(zb0 f ⟨(cx:Int),(cy:Int)⟩).length:=by omega
        obtain⟨n,hn⟩:∃n,n=(zdd W H i).getD k default:=⟨_,rfl⟩
        obtain⟨c,hc⟩:∃c,c=(zb0 f ⟨(cx:Int),(cy:Int)⟩).getD k default:=⟨_,rfl⟩
        have hcn:zau f c=n:=by
         rw[hc,hn,←bm,zad _ _ hlt3,zad _ _ (by rw[List.length_map];exact hlt3),List.getElem_map]
        have hcin:=bi c (by rw[hc];exact za9 _ _ hlt3)
        obtain⟨i1,i2,i3,i4,i5⟩:=za8 h1 hcin
        have hnm:=(zhf (W:=W) (H:=H) (p:=i) (n:=n) (by omega) (by omega)).1 (by rw[hn];exact za9 _ _ hlt2)
        have hnp:n<f.p.length:=by omega
        have hnf:n<far2.length:=by omega
        have hif:i<far2.length:=by omega
        have hmi:c.y*f.w+c.x=(n:Int):=by rw[←hcn];unfold zau;omega
        have ew1:IntKind.i64.wrap (IntKind.i64.wrap (c.y*f.w)+c.x)=(n:Int):=by rw[zaq (c.y*f.w) (by omega) (by omega),zaq _ (by omega) (by omega)];exact hmi
        have htop:=hB2.top n hnp
        have hlow:=hB2.low n hnp
        have hcl:=zgp zff 1 zgw far2
        have hne:i≠n:=Adj.ne (by omega) hnm.2
        rw[hfl2]at hcl
        have ew2:IntKind.i64.wrap (far2.getD n default+cst)=far2.getD n default+cst:=zaq _ (by omega) (by omega)
        iterate 2(try simp(etaStruct := .none)only[push_cast,zab,seval,←hcst,ex,ey,zaa _ _ _ hil,zac,zaa _ _ _ hlt3,←hc,zaz,ew1,ew2,zaa _ _ _ hnf,zaa _ _ _ hif,List.length_map];try refine xsu ?_)
        refine zal (fun h10 => ?_) (fun h10 => ?_)
        ·(try replace h10:=xhh h10)
         have hnfine:¬zzh f.p far2 i n:=by
          unfold zzh
          rintro (h|h|h)
          ·omega
          ·omega
          ·rcases hcb with g|g
           ·omega
           ·omega
         have hbt:=hB2.better (by omega) hil hnp hnm.2 hne hnfine
         have hce:cst=kV (f.p.getD i default):=by rcases hcb with g|g;omega;exact g.2
         rw[←hce]at hbt
         iterate 2(try simp(etaStruct := .none)only[push_cast,zab,seval,←hcst,ex,ey,zaa _ _ _ hil,zac,zaa _ _ _ hlt3,←hc,zaz,ew1,ew2,zaa _ _ _ hnf,zaa _ _ _ hif,List.length_map];try refine xsu ?_)
         refine⟨(k+1,far2.set i (far2.getD n default+cst),true),⟨by simp only;omega,hbt.1,.inr ⟨rfl,by
 simp only
 rcases hsw2 with h|h
 ·rw[←h.2.1];exact hbt.2
 ·exact Nat.lt_trans hbt.2 h.2⟩⟩, by simp only; omega, To.mk [0, 1] rfl rfl (by decide) ?_ ?_⟩
         ·(iterate 2((try simp(etaStruct := .none)only[push_cast,zab,seval,List.map_set,zac]);(try(refine xsu ?_;try exact xtI))))
         ·(iterate 2((try simp(etaStruct := .none)only[push_cast,zab,seval,←hcst,ex,ey,zaa _ _ _ hil,zac,zaa _ _ _ hlt3,←hc,zaz,ew1,ew2,zaa _ _ _ hnf,zaa _ _ _ hif,List.length_map]);(try(refine xsu ?_;try exact xtI))))
        ·(try replace h10:=xhh h10)
         have hfn:zzh f.p far2 i n:=by
          unfold zzh
          rcases hcb with g|g
          ·exact .inl g.1
          ·by_cases h0:far2.getD n default<0
           ·exact .inr (.inl h0)
           ·refine .inr (.inr ?_)
            rcases h10 with h|h
            ·omega
            ·omega
         iterate 2(try simp(etaStruct := .none)only[push_cast,zab,seval,←hcst,ex,ey,zaa _ _ _ hil,zac,zaa _ _ _ hlt3,←hc,zaz,ew1,ew2,zaa _ _ _ hnf,zaa _ _ _ hif,List.length_map];try refine xsu ?_)
         refine⟨(k+1,far2,b2),⟨by simp only;omega,hB2,by
 simp only
 rcases hsw2 with h|h
 ·refine .inl ⟨h.1,h.2.1,h.2.2.1,fun m hm => ?_⟩
  rw[zav _ _ hlt2,←hn,List.mem_append,List.mem_singleton]at hm
  rcases hm with hm|rfl
  ·exact h.2.2.2 m hm
  ·exact hfn
 ·exact .inr h⟩, by simp only; omega, To.mk [0, 1] rfl rfl (by decide) ?_ ?_⟩
         ·(iterate 2((try simp(etaStruct := .none)only[push_cast,zab,seval,←hcst,ex,ey,zaa _ _ _ hil,zac,zaa _ _ _ hlt3,←hc,zaz,ew1,ew2,zaa _ _ _ hnf,zaa _ _ _ hif,List.length_map]);(try(refine xsu ?_;try exact xtI))))
         ·(iterate 2((try simp(etaStruct := .none)only[push_cast,zab,seval,←hcst,ex,ey,zaa _ _ _ hil,zac,zaa _ _ _ hlt3,←hc,zaz,ew1,ew2,zaa _ _ _ hnf,zaa _ _ _ hif,List.length_map]);(try(refine xsu ?_;try exact xtI))))
       ·(try replace h9:=xhh h9)
        obtain rfl:k=(zdd W H i).length:=by omega
        try refine xz5 hcst.symm ex ey (gd hil) zak ?_
        refine⟨(i+1,far2,b2),⟨by simp only;omega,hB2,by
 simp only
 rcases hsw2 with h|h
 ·refine .inl ⟨h.1,h.2.1,fun i' m h1' h2' h3' => ?_⟩
  rcases Nat.lt_or_ge i' i with g|g
  ·exact h.2.2.1 i' m g h2' h3'
  ·obtain rfl:i'=i:=by omega
   refine h.2.2.2 m ?_
   rw[List.take_length]
   exact(zhf (by omega) (by omega)).2 ⟨by omega,h3'⟩
 ·exact .inr h⟩, by simp only; omega, To.mk [0, 1] rfl rfl (by decide) ?_ ?_⟩
        ·(try(refine xz5 hcst.symm ex ey (gd hil) zak ?_;try exact xtI))
        ·(try(refine xz5 hcst.symm ex ey (gd hil) zak ?_;try exact xtI))
      ·(try replace h8:=xhh h8)
       obtain rfl:i=f.p.length:=by omega
       try refine xst ?_
       refine⟨(far1,b1),⟨hB1,fun hb=>by
 rcases hsw with h|h
 ·exact fun i n q1 q2 q3=>h.2.2 i n q1 q2 q3
 ·simp only at hb;rw[h.1]at hb;simp at hb⟩,by
 simp only
 rcases hsw with h|h
 ·rw[h.1,h.2.1,h7];simp
 ·rw [h.1, h7]; simp; omega, To.mk [0, 1] rfl rfl (by decide) ?_ ?_⟩
       ·(try(refine xst ?_;try exact xtI))
       ·(try(refine xst ?_;try exact xtI))
     ·(try replace h7:=xhh h7)
      have e2:R=far0:=hR.1 e far0 (by rw[hW,Int.toNat_natCast];exact hB.flood (hfine h7))
      try refine xst ?_
      (first|(refine zar rfl (Wk.of ?_);(try simp(etaStruct := .none)only[push_cast,zab,seval]);first|done|(simp[e,e2, *];done)|(simp_all[e,e2];done))|(refine zar rfl ?_;(try simp(etaStruct := .none)only[push_cast,zab,seval]);(try simp[e,e2, *]);(try exact wkc)))
end Go.Proofs.YtbapdgmcndgieaaGreat
namespace Go.Proofs.YtbapdgmcndgieaaGreat
set_option linter.all false
open Go.RowKit
set_option maxRecDepth 100000
theorem zbz (a b:Cel):(decide (a.x=b.x)&&decide (a.y=b.y))=decide (a=b):=by
 rw[Bool.eq_iff_iff];cases a;cases b;simp
theorem yf5 (l m:List Cel) (hl:l.length≤9223372036854775807) (hm:m.length≤9223372036854775807):Spec Tryz.prog 111 [.c (.sl 2 (l.map zaz)),.c (.sl 2 (m.map zaz))] [] (B (decide (l=m))) []:=by
 refine spB Tryz.func111 26 [.tmp 4] Tryz.results111 ?_
 try refine xst ?_
 refine cI (fun h1 => ?_) fun h1 => ?_
 ·have e:l≠m:=by intro e;subst e;simp at h1
  try refine xst ?_
  exact zbe rfl trivial (Wk.of (by rw[decide_eq_false e];rfl))
 ·try refine xst ?_
  refine zas (fun k:Nat=>⟨[(13,I .i64 k),(12,I .i64 l.length),(1,.c (.sl 2 (m.map zaz))),(0,.c (.sl 2 (l.map zaz)))],[],0⟩) (fun k:Nat=>k≤l.length∧∀j,j<k→l.getD j default=m.getD j default) (fun k:Nat=>l.length-k) (0) (⟨Nat.zero_le _,fun j h=>by omega⟩) (To.mk [] rfl rfl List.nodup_nil trivial ?_) ?_
  ·simp(etaStruct := .none)only[push_cast,zab,seval]
  rintro k ⟨hk,hn⟩
  try refine xst ?_
  refine cI (fun h2 => ?_) fun h2 => ?_
  ·have hlt:k<l.length:=by omega
   have hlt2:k<m.length:=by omega
   try refine xz4 (gd hlt) (gd hlt2) zao zbz ?_
   (try(refine⟨by kernel_rfl,?_⟩))
   try refine xz4 (gd hlt) (gd hlt2) zao zbz ?_
   refine cI (fun h3 => ?_) fun h3 => ?_
   ·have e:l≠m:=by intro e;subst e;simp at h3
    try refine xz4 (gd hlt) (gd hlt2) zao zbz ?_
    exact zbe rfl trivial (Wk.of (by rw[decide_eq_false e];rfl))
   ·try refine xz4 (gd hlt) (gd hlt2) zao zbz ?_
    refine⟨k+1,⟨by omega,fun j hj=>by rcases Nat.lt_or_ge j k with h|h;exact hn j h;rw[show j=k by omega];simpa using h3⟩,by omega,To.mk [] rfl rfl List.nodup_nil trivial ?_⟩
    ·(try(refine xz4 (gd hlt) (gd hlt2) zao zbz ?_;try exact xtI))
  ·have e:l=m:=by
    refine List.ext_getElem (by omega) fun i i1 i2 => ?_
    have:=hn i (by omega)
    rwa [zad _ _ i1,zad _ _ i2]at this
   try refine xst ?_
   exact zbe rfl trivial (Wk.of (by rw[decide_eq_true e];rfl))
theorem z2i (l m:List Int) (hl:l.length≤9223372036854775807) (hm:m.length≤9223372036854775807):Spec Tryz.prog 112 [.c (.sl 1 (l.map zac)),.c (.sl 1 (m.map zac))] [] (B (decide (l=m))) []:=by
 refine spB Tryz.func112 26 [.tmp 4] Tryz.results112 ?_
 try refine xst ?_
 refine cI (fun h1 => ?_) fun h1 => ?_
 ·have e:l≠m:=by intro e;subst e;simp at h1
  try refine xst ?_
  exact zbe rfl trivial (Wk.of (by rw[decide_eq_false e];rfl))
 ·try refine xst ?_
  refine zas (fun k:Nat=>⟨[(13,I .i64 k),(12,I .i64 l.length),(1,.c (.sl 1 (m.map zac))),(0,.c (.sl 1 (l.map zac)))],[],0⟩) (fun k:Nat=>k≤l.length∧∀j,j<k→l.getD j default=m.getD j default) (fun k:Nat=>l.length-k) (0) (⟨Nat.zero_le _,fun j h=>by omega⟩) (To.mk [] rfl rfl List.nodup_nil trivial ?_) ?_
  ·simp(etaStruct := .none)only[push_cast,zab,seval]
  rintro k ⟨hk,hn⟩
  try refine xst ?_
  refine cI (fun h2 => ?_) fun h2 => ?_
  ·have hlt:k<l.length:=by omega
   have hlt2:k<m.length:=by omega
   iterate 2(try simp(etaStruct := .none)only[push_cast,zab,seval,zaa _ _ _ hlt,zaa _ _ _ hlt2,zac,decide_not];try refine xsu ?_)
   (try(refine⟨by kernel_rfl,?_⟩))
   iterate 2(try simp(etaStruct := .none)only[push_cast,zab,seval,zaa _ _ _ hlt,zaa _ _ _ hlt2,zac,decide_not];try refine xsu ?_)
   refine cI (fun h3 => ?_) fun h3 => ?_
   ·have e:l≠m:=by intro e;subst e;simp at h3
    iterate 2(try simp(etaStruct := .none)only[push_cast,zab,seval,zaa _ _ _ hlt,zaa _ _ _ hlt2,zac,decide_not];try refine xsu ?_)
    exact zbe rfl trivial (Wk.of (by rw[decide_eq_false e];rfl))
   ·iterate 2(try simp(etaStruct := .none)only[push_cast,zab,seval,zaa _ _ _ hlt,zaa _ _ _ hlt2,zac,decide_not];try refine xsu ?_)
    refine⟨k+1,⟨by omega,fun j hj=>by rcases Nat.lt_or_ge j k with h|h;exact hn j h;rw[show j=k by omega];simpa using h3⟩,by omega,To.mk [] rfl rfl List.nodup_nil trivial ?_⟩
    ·(iterate 2((try simp(etaStruct := .none)only[push_cast,zab,seval,zaa _ _ _ hlt,zaa _ _ _ hlt2,zac,decide_not]);(try(refine xsu ?_;try exact xtI))))
  ·have e:l=m:=by
    refine List.ext_getElem (by omega) fun i i1 i2 => ?_
    have:=hn i (by omega)
    rwa [zad _ _ i1,zad _ _ i2]at this
   try refine xst ?_
   exact zbe rfl trivial (Wk.of (by rw[decide_eq_true e];rfl))
end Go.Proofs.YtbapdgmcndgieaaGreat
namespace Go.Proofs.YtbapdgmcndgieaaGreat
set_option linter.all false
open Go.RowKit
set_option maxRecDepth 100000
set_option maxHeartbeats 1000000
def zbw (f:Fld) (c:Cel):Bool:=inF f c && !decide (zag f c=1)
theorem zp7 (f:Fld) (c:Cel) (h:zbp f=0):Spec Tryz.prog 63 [znh f,zem c] [] (B (zbw f c)) []:=by
 have hk:=zba h
 refine spB Tryz.func63 14 [.tmp 4] Tryz.results63 ?_
 try refine xst ?_
 refine caP (yjo f c (by omega) (by omega)) ?_
 try refine xst ?_
 refine gcP (fun hcc=>zjw f c h hcc) ?_
 try refine xst ?_
 (first|(refine zar rfl (Wk.of ?_);(try simp(etaStruct := .none)only[push_cast,zab,seval]);first|done|(simp[zbw, *];done)|(simp_all[zbw];done))|(refine zar rfl ?_;(try simp(etaStruct := .none)only[push_cast,zab,seval]);(try simp[zbw, *]);(try exact wkc)))
structure Knd where
 life:Int
 blow:Int
 load:Int
 price:Int
 deriving DecidableEq, Inhabited
def zbh (k:Int):Knd:=if k=1 then ⟨10,1,1,5⟩else if k=2 then ⟨20,2,4,12⟩else ⟨0,0,0,0⟩
abbrev yjn (k:Knd):AV := .agg [I .i64 k.life,I .i64 k.blow,I .i64 k.load,I .i64 k.price]
theorem zhh (k:Int) (h:k=1∨k=2):Spec Tryz.prog 64 [I .i64 k] [] (yjn (zbh k)) []:=by
 rcases h with rfl|rfl
 ·have e:zbh 1=⟨10,1,1,5⟩:=rfl
  rw[e]
  refine spB Tryz.func64 10 [.cell 2 120] Tryz.results64 ?_
  try refine xst ?_
  exact xrz rfl
 ·have e:zbh 2=⟨20,2,4,12⟩:=rfl
  rw[e]
  refine spB Tryz.func64 10 [.cell 2 120] Tryz.results64 ?_
  try refine xst ?_
  exact xrz rfl
def zde (p:Nat→Bool):Nat→Bool
 | 0=>true
 | k+1=>zde p k&&p k
theorem zbo (p:Nat→Bool):∀n,zde p n=true↔∀i,i<n→p i=true
 | 0=>by simp[zde]
 | n+1=>by
  rw[zde,Bool.and_eq_true,zbo p n]
  constructor
  ·rintro⟨a,b⟩ i hi
   rcases Nat.lt_or_ge i n with h|h
   ·exact a i h
   ·obtain rfl:i=n:=by omega
    exact b
  ·intro h
   exact⟨fun i hi=>h i (by omega),h n (by omega)⟩
def zhv (w:Wld) (i:Nat):Bool:=zbw w.f (w.bases.getD i default)&&zap (w.stocks.getD i default) 0 1000000&&zde (fun j => !decide (w.bases.getD j default=w.bases.getD i default)) i
def zi4 (w:Wld) (i:Nat):Bool:=zap (w.mines.getD i default) 0 1000000&&(decide (w.mines.getD i default=0)||decide (w.f.p.getD i default=3))
def z7v (w:Wld) (t:Trp):Bool:=zap t.id 1 (w.next-1)&&zap t.owner 0 ((w.bases.length:Int)-1)&&zbw w.f t.c&&zap t.life 1 (zbh t.kind).life&&zap t.load 0 (5*(2-t.kind))
def z4h (w:Wld) (i:Nat):Bool:=zde (fun j=>decide ((w.troops.getD j default).id<(w.troops.getD i default).id) && !decide ((w.troops.getD j default).c=(w.troops.getD i default).c)) i
def zdj (w:Wld) (i:Nat):Bool:=zap (w.troops.getD i default).kind 1 2&&(z7v w (w.troops.getD i default)&&z4h w i)
def ze7 (w:Wld):Bool:=zde (zhv w) w.bases.length&&zde (zi4 w) w.mines.length&&zde (zdj w) w.troops.length
def zge (w:Wld):Bool:=decide (w.stocks.length=w.bases.length)&&decide (w.mines.length=w.f.p.length)&&zap w.next 1 1000000&&zap w.now 0 1000000
def zah (w:Wld):Int:=if zbp w.f≠0 then zbp w.f else if 8<w.bases.length∨100<w.troops.length then 2 else if zge w&&ze7 w then 0 else 4
end Go.Proofs.YtbapdgmcndgieaaGreat
namespace Go.Proofs.YtbapdgmcndgieaaGreat
set_option linter.all false
open Go.RowKit
def zd0 (c:Cel):Bool:=decide (-1000≤c.x∧c.x≤1000 ∧ -1000≤c.y∧c.y≤1000)
def lq (n m k:Nat):Nat:=(2*k*m+n)/(2*n)
def lr (n m k:Nat):Nat:=(2*k*m+n) % (2*n)
theorem zps (n m k:Nat) (hn:0<n) (hm:m≤n):(2*n≤lr n m k+2*m→lq n m (k+1)=lq n m k+1∧lr n m (k+1)=lr n m k+2*m-2*n)∧(lr n m k+2*m<2*n→lq n m (k+1)=lq n m k∧lr n m (k+1)=lr n m k+2*m):=by
 have e:2*(k+1)*m+n=(2*k*m+n)+2*m:=by rw[Nat.mul_add,Nat.add_mul];omega
 have hd:=Nat.div_add_mod (2*k*m+n) (2*n)
 have hlt:(2*k*m+n) % (2*n)<2*n:=Nat.mod_lt _ (by omega)
 unfold lq lr
 rw[e]
 constructor
 ·intro h
  have e2:2*k*m+n+2*m=((2*k*m+n) % (2*n)+2*m-2*n)+2*n*((2*k*m+n)/(2*n)+1):=by rw[Nat.mul_add];omega
  rw[e2,Nat.add_mul_div_left _ _ (by omega),Nat.add_mul_mod_self_left,Nat.div_eq_of_lt (by omega),Nat.mod_eq_of_lt (by omega)]
  omega
 ·intro h
  have e2:2*k*m+n+2*m=((2*k*m+n) % (2*n)+2*m)+2*n*((2*k*m+n)/(2*n)):=by omega
  rw[e2,Nat.add_mul_div_left _ _ (by omega),Nat.add_mul_mod_self_left,Nat.div_eq_of_lt (by omega),Nat.mod_eq_of_lt (by omega)]
  omega
theorem zpr (n m:Nat):lq n m 0=0:=by
 unfold lq
 rcases Nat.eq_zero_or_pos n with rfl|h
 ·simp
 ·rw[Nat.mul_zero,Nat.zero_mul,Nat.zero_add];exact Nat.div_eq_of_lt (by omega)
theorem ybi (n m:Nat):lr n m 0=n:=by
 unfold lr
 rcases Nat.eq_zero_or_pos n with rfl|h
 ·simp
 ·rw[Nat.mul_zero,Nat.zero_mul,Nat.zero_add];exact Nat.mod_eq_of_lt (by omega)
theorem yiv (n m k:Nat) (h:0<n):lr n m k<2*n:=Nat.mod_lt _ (by omega)
theorem zsd (n m k:Nat) (hn:0<n) (hk:k≤n):lq n m k≤m:=by
 unfold lq
 have:2*k*m≤2*n*m:=Nat.mul_le_mul_right _ (by omega)
 have:(2*k*m+n)/(2*n)<m+1:=(Nat.div_lt_iff_lt_mul (by omega)).2 (by rw[Nat.add_mul,Nat.mul_comm m];omega)
 omega
def lpt (a:Cel) (sx sy:Int) (X Y k:Nat):Cel:=if Y≤X then ⟨a.x+sx*k,a.y+sy*lq X Y k⟩else ⟨a.x+sx*lq Y X k,a.y+sy*k⟩
def zyp (a:Cel) (sx sy:Int) (X Y n:Nat):List Cel:=(List.range (n+1)).map (lpt a sx sy X Y)
theorem zfp {c:Cel} (h:zd0 c=true) : -1000≤c.x∧c.x≤1000 ∧ -1000≤c.y∧c.y≤1000:=by simpa[zd0]using h
theorem zi6 (a:Cel) (sx sy:Int) (X Y n:Nat):zyp a sx sy X Y (n+1)=zyp a sx sy X Y n ++ [lpt a sx sy X Y (n+1)]:=by simp[zyp,List.range_succ]
theorem zaj (a:Cel) (sx sy:Int) (X Y n:Nat):(zyp a sx sy X Y n).length=n+1:=by simp[zyp]
theorem zk4 (a:Cel) (sx sy:Int) (X Y:Nat):lpt a sx sy X Y 0=a:=by simp[lpt,zpr]
theorem z55 (a:Cel) (sx sy:Int) (X Y k:Nat) (h1:sx = -1∨sx=0∨sx=1) (h2:sy = -1∨sy=0∨sy=1) (hX:X≤2000) (hY:Y≤2000) (hk:k≤max X Y) (ha:zd0 a=true) :
 -3000≤(lpt a sx sy X Y k).x∧(lpt a sx sy X Y k).x≤3000 ∧ -3000≤(lpt a sx sy X Y k).y∧(lpt a sx sy X Y k).y≤3000:=by
 have hn:=zfp ha
 have key:∀(s:Int) (q:Nat),(s = -1∨s=0∨s=1)→q≤2000 → -2000≤s*q∧s*q≤2000:=by
  intro s q hs hq
  rcases hs with rfl|rfl|rfl<;>omega
 unfold lpt
 split
 ·have hq:lq X Y k≤2000:=by
   rcases Nat.eq_zero_or_pos X with rfl|h
   ·obtain rfl:k=0:=by omega
    rw[zpr];omega
   ·have:=zsd X Y k h (by omega);omega
  have a1:=key sx k h1 (by omega)
  have a2:=key sy _ h2 hq
  simp only;omega
 ·have hq:lq Y X k≤2000:=by have:=zsd Y X k (by omega) (by omega);omega
  have a1:=key sx _ h1 hq
  have a2:=key sy k h2 (by omega)
  simp only;omega
theorem z18 (a:Cel) (sx sy:Int) (X Y k:Nat) (h:Y≤X) (h0:0<X):lpt a sx sy X Y (k+1)=⟨(lpt a sx sy X Y k).x+sx,if 2*X≤lr X Y k+2*Y then (lpt a sx sy X Y k).y+sy else (lpt a sx sy X Y k).y⟩:=by
 simp only[lpt,if_pos h]
 have hs:=zps X Y k h0 h
 have e1:a.x+sx*((k+1:Nat):Int)=a.x+sx*k+sx:=by rw[Int.natCast_add,Int.mul_add];omega
 rw[e1]
 by_cases hc:2*X≤lr X Y k+2*Y
 ·rw[if_pos hc,(hs.1 hc).1,Int.natCast_add,Int.mul_add];congr 1;omega
 ·rw[if_neg hc,(hs.2 (by omega)).1]
theorem z17 (a:Cel) (sx sy:Int) (X Y k:Nat) (h:X<Y):lpt a sx sy X Y (k+1)=⟨if 2*Y≤lr Y X k+2*X then (lpt a sx sy X Y k).x+sx else (lpt a sx sy X Y k).x,(lpt a sx sy X Y k).y+sy⟩:=by
 simp only[lpt,if_neg (show ¬Y≤X by omega)]
 have hs:=zps Y X k (by omega) (by omega)
 have e1:a.y+sy*((k+1:Nat):Int)=a.y+sy*k+sy:=by rw[Int.natCast_add,Int.mul_add];omega
 rw[e1]
 by_cases hc:2*Y≤lr Y X k+2*X
 ·rw[if_pos hc,(hs.1 hc).1,Int.natCast_add,Int.mul_add];congr 1;omega
 ·rw[if_neg hc,(hs.2 (by omega)).1]
theorem zfq (n:Nat) (y:Int) (N Y:Nat) (hn:n≤N) (hy : -(Y:Int)≤y∧y≤Y) : -((N*Y:Nat):Int)≤(n:Int)*y∧(n:Int)*y≤((N*Y:Nat):Int):=by
 have h1:(n:Int)*y≤(n:Int)*Y:=Int.mul_le_mul_of_nonneg_left hy.2 (by omega)
 have h2:(n:Int)*(-(Y:Int))≤(n:Int)*y:=Int.mul_le_mul_of_nonneg_left hy.1 (by omega)
 have h3:(n:Int)*Y≤((N*Y:Nat):Int):=by rw[Int.natCast_mul];exact Int.mul_le_mul_of_nonneg_right (by omega) (by omega)
 rw[Int.mul_neg]at h2
 omega
def zzc (n T t z1 z2:Int):Prop:=(n*z1-T).natAbs<(n*z2-T).natAbs∨((n*z1-T).natAbs=(n*z2-T).natAbs∧(z1-t).natAbs<(z2-t).natAbs)
theorem zy7 (n m k:Nat) (f t s:Int) (hn:0<n) (_:m≤n) (hk:k≤n) (hs:s=1∨s = -1) (ht:t=f+s*m) (z:Int) (_:min f t≤z∧z≤max f t) (hne:z≠f+s*lq n m k) :
 zzc n (n*f+k*(t-f)) t (f+s*lq n m k) z:=by
 have hq:=zsd n m k hn hk
 have hd:=Nat.div_add_mod (2*k*m+n) (2*n)
 have hlt:(2*k*m+n) % (2*n)<2*n:=Nat.mod_lt _ (by omega)
 have hq2:lq n m k=(2*k*m+n)/(2*n):=rfl
 rw[←hq2]at hd
 generalize (2*k*m+n) % (2*n)=r at hd hlt
 generalize lq n m k=q at *
 have hd2:2*((n:Int)*q)+r=2*((k:Int)*m)+n:=by
  have:((2*n*q+r:Nat):Int)=((2*k*m+n:Nat):Int):=by rw[hd]
  simp only[Int.natCast_add,Int.natCast_mul]at this
  rw[Int.mul_assoc,Int.mul_assoc]at this
  exact this
 obtain⟨e,he⟩:∃e:Int,z=f+s*q+e:=⟨z-(f+s*q),by omega⟩
 have he0:e≠0:=by intro h;apply hne;rw[he,h];omega
 have hE:(1≤e→(n:Int)≤n*e)∧(e ≤ -1→(n:Int)*e ≤ -n):=by
  constructor
  ·intro h
   have:=Int.mul_le_mul_of_nonneg_left (c:=(n:Int)) h (by omega)
   omega
  ·intro h
   have:=Int.mul_le_mul_of_nonneg_left (c:=(n:Int)) h (by omega)
   rw[Int.mul_neg]at this
   omega
 have e1:(n:Int)*z=n*f+n*(s*q)+n*e:=by rw[he,Int.mul_add,Int.mul_add]
 have e2:(n:Int)*(f+s*q)=n*f+n*(s*q):=by rw[Int.mul_add]
 unfold zzc
 rw[e1,e2]
 rcases hs with rfl|rfl
 ·simp only[Int.one_mul]at *
  have e3:(k:Int)*(t-f)=k*m:=by rw[ht];congr 1;omega
  rw[e3]
  generalize (n:Int)*q=A at *
  generalize (k:Int)*m=B at *
  generalize (n:Int)*e=E at *
  generalize (n:Int)*f=F at *
  omega
 ·have e4:(n:Int)*(-1*(q:Int)) = -(n*q):=by rw[Int.neg_one_mul,Int.mul_neg]
  have e3:(k:Int)*(t-f) = -(k*m):=by rw[ht,←Int.mul_neg];congr 1;omega
  rw[e3,e4]
  generalize (n:Int)*q=A at *
  generalize (k:Int)*m=B at *
  generalize (n:Int)*e=E at *
  generalize (n:Int)*f=F at *
  omega
theorem zy9 (n T t Q f b y:Int) (A B C D:Nat) (hA:A=(n*y-T).natAbs) (hB:B=(n*b-T).natAbs) (hC:C=(y-t).natAbs) (hD:D=(b-t).natAbs) (HI:Q<y∨Q=f→b=Q) (HBy:y≠Q→zzc n T t Q y) (HBb:b≠Q→zzc n T t Q b) :
 ((A<B∨(A=B∧C<D))→(Q<y+1∨Q=f→y=Q))∧(¬(A<B∨(A=B∧C<D))→(Q<y+1∨Q=f→b=Q)):=by
 constructor
 ·intro h1 h2
  refine Classical.byContradiction fun hne => ?_
  obtain rfl:b=Q:=HI (by omega)
  have:=HBy hne
  unfold zzc at this
  omega
 ·intro h1 h2
  by_cases hq:Q<y∨Q=f
  ·exact HI hq
  ·refine Classical.byContradiction fun hne => ?_
   obtain rfl:Q=y:=by omega
   have:=HBb hne
   unfold zzc at this
   omega
theorem zq9 (k X:Nat) (d s:Int) (hs:d.sign=s) (hn:d.natAbs=X) (hX:X≠0):((k:Int)*d).tdiv X=s*k:=by
 have e:d=s*X:=by rw[←hs,←hn];exact(Int.sign_mul_natAbs d).symm
 rw[e,←Int.mul_assoc,Int.mul_tdiv_cancel _ (by omega),Int.mul_comm]
theorem zon (n m k:Nat) (f t s:Int) (hs:(t-f).sign=s) (hm:(t-f).natAbs=m):∃s',(s'=1∨s' = -1)∧t=f+s'*m∧s'*lq n m k=s*lq n m k:=by
 rcases Int.lt_trichotomy (t-f) 0 with h|h|h
 ·rw[Int.sign_eq_neg_one_of_neg h]at hs;subst hs;exact⟨-1,.inr rfl,by omega,rfl⟩
 ·have h0:m=0:=by omega
  subst h0
  have hq:lq n 0 k=0:=by
   unfold lq
   rcases Nat.eq_zero_or_pos n with rfl|hn
   ·simp
   ·rw[Nat.mul_zero,Nat.zero_add];exact Nat.div_eq_of_lt (by omega)
  exact⟨1,.inl rfl,by omega,by rw[hq];simp⟩
 ·rw[Int.sign_eq_one_of_pos h]at hs;subst hs;exact⟨1,.inl rfl,by omega,rfl⟩
end Go.Proofs.YtbapdgmcndgieaaGreat
namespace Go.Proofs.YtbapdgmcndgieaaGreat
set_option linter.all false
open Go.RowKit
set_option maxRecDepth 100000
set_option maxHeartbeats 2000000
theorem zwl (c:Cel) (hx:zio c.x) (hy:zio c.y):Spec Tryz.prog 184 [zem c] [] (B (zd0 c)) []:=by
 refine spB Tryz.func184 23 [.tmp 2] Tryz.results184 ?_
 try refine xst ?_
 refine zbe rfl trivial (Wk.of ?_)
 simp(etaStruct := .none)only[push_cast,zab,seval]
 simp only[I,B,AV.c.injEq,PV.v.injEq,Value.bool.injEq,zd0,IntKind.wrap_i64]
 rw[Bool.eq_iff_iff]
 simp only[Bool.and_eq_true,decide_eq_true_eq]
 repeat' split
 all_goals omega
theorem zvu (n:Int) (hn:zio n) (h:n ≠ -9223372036854775808):Spec Tryz.prog 185 [I .i64 n] [] (.tup [I .i64 n.sign,I .i64 n.natAbs]) []:=by
 refine spB Tryz.func185 13 [.tmp 2,.tmp 3] Tryz.results185 ?_
 try refine xst ?_
 refine cI (fun h1 => ?_) fun h1 => ?_
 ·have e1:n.sign = -1:=Int.sign_eq_neg_one_of_neg h1
  have e2:(n.natAbs:Int) = -n:=by omega
  try refine xz2 e1 e2 ?_
  exact xrz rfl
 ·try refine xst ?_
  refine cI (fun h2 => ?_) fun h2 => ?_
  ·have e1:n.sign=1:=Int.sign_eq_one_of_pos h2
   have e2:(n.natAbs:Int)=n:=by omega
   try refine xst ?_
   exact xrz rfl
  ·obtain rfl:n=0:=by omega
   try refine xst ?_
   exact xrz rfl
theorem zy5 (c:Cel):Spec Tryz.prog 84 [zem c] [] (B (zd0 c)) []:=by
 refine spB Tryz.func84 11 [.tmp 2] Tryz.results84 ?_
 try refine xst ?_
 refine caP (zay c.x (-1000) 1000) ?_
 try refine xst ?_
 refine gcP (fun hcc=>zay c.y (-1000) 1000) ?_
 try refine xst ?_
 exact zbe rfl trivial (Wk.of (congrArg B (by unfold zd0 zap;rw[Bool.eq_iff_iff];simp;omega)))
theorem zsv (a b:Int) (ha : -4000000000000000000≤a∧a≤4000000000000000000) (hb : -4000000000000000000≤b∧b≤4000000000000000000):Spec Tryz.prog 182 [I .i64 a,I .i64 b] [] (I .i64 (a-b).natAbs) []:=by
 refine spB Tryz.func182 12 [.tmp 4] Tryz.results182 ?_
 try refine xst ?_
 refine zbe rfl trivial (Wk.of ?_)
 simp(etaStruct := .none)only[push_cast,zab,seval]
 simp only[I,AV.c.injEq,PV.v.injEq,Value.int.injEq,true_and]
 split<;>omega
theorem sg (d:Int):d.sign = -1∨d.sign=0∨d.sign=1:=by
 rcases Int.lt_trichotomy d 0 with h|h|h
 ·rw[Int.sign_eq_neg_one_of_neg h];omega
 ·rw[h];simp
 ·rw[Int.sign_eq_one_of_pos h];omega
def zi7 (a b:Cel):List Cel:=zyp a (b.x-a.x).sign (b.y-a.y).sign (b.x-a.x).natAbs (b.y-a.y).natAbs (max (b.x-a.x).natAbs (b.y-a.y).natAbs)
theorem z31 (n m k:Nat) (f t s:Int) (hn:0<n) (hm:m≤n) (hk:k≤n) (hn2:n≤120) (hs:s=1∨s = -1) (ht:t=f+s*m) (hf : -1000≤f∧f≤1000) (htn : -1000≤t∧t≤1000) :
 Spec Tryz.prog 210 [I .i64 k,I .i64 n,I .i64 f,I .i64 t] [] (I .i64 (f+s*lq n m k)) []:=by
 have HB:=fun z hz hne=>zy7 n m k f t s hn hm hk hs ht z hz hne
 obtain⟨Q,hQ⟩:∃Q,Q=f+s*lq n m k:=⟨_,rfl⟩
 obtain⟨T,hT⟩:∃T:Int,T=n*f+k*(t-f):=⟨_,rfl⟩
 rw[←hQ,←hT]at HB
 rw[←hQ]
 have HQ:min f t≤Q∧Q≤max f t:=by
  have hq:=zsd n m k hn hk
  rw[hQ,ht]
  generalize lq n m k=q at *
  rcases hs with rfl|rfl<;>omega
 have hb1:=zfq n f 120 1000 hn2 (by omega)
 have hb2:=zfq k (t-f) 120 2000 (by omega) (by omega)
 clear hs ht hQ
 have E1:(if f>t then t else f)=min f t:=by simp only[Int.min_def];split<;>split<;>omega
 have E2:(if t>f then t else f)=max f t:=by simp only[Int.max_def];split<;>split<;>omega
 have E3:(if t<f then t else f)=min f t:=by simp only[Int.min_def];split<;>split<;>omega
 refine spB Tryz.func210 69 [.tmp 8] Tryz.results210 ?_
 iterate 2(try simp(etaStruct := .none)only[push_cast,zab,seval,E1,E2,E3];try refine xsu ?_)
 refine zas (fun p:Int × Int=>⟨[(10,I .i64 p.1),(9,I .i64 p.2),(3,I .i64 t),(2,I .i64 f),(1,I .i64 n),(0,I .i64 k)],[],0⟩) (fun p:Int × Int=>(min f t≤p.1∧p.1≤max f t+1)∧(min f t≤p.2∧p.2≤max f t)∧(Q<p.1∨Q=f→p.2=Q)) (fun p:Int × Int=>(max f t+1-p.1).toNat) ((min f t,f)) (⟨⟨by simp only;omega,by simp only;omega⟩,⟨by simp only;omega,by simp only;omega⟩,fun h=>by simp only at h ⊢;omega⟩) (To.mk [] rfl rfl List.nodup_nil trivial ?_) ?_
 ·simp(etaStruct := .none)only[push_cast,zab,seval]
 rintro⟨y,b⟩ ⟨hy,hb,HI⟩
 simp only at hy hb HI
 iterate 2(try simp(etaStruct := .none)only[push_cast,zab,seval,E1,E2,E3];try refine xsu ?_)
 refine cI (fun h1 => ?_) fun h1 => ?_
 ·have hb3:=zfq n y 120 1000 hn2 (by omega)
  have hb4:=zfq n b 120 1000 hn2 (by omega)
  iterate 2(try simp(etaStruct := .none)only[push_cast,zab,seval,E1,E2,E3];try refine xsu ?_)
  have st:=zy9 n T t Q f b y _ _ _ _ rfl rfl rfl rfl HI (fun h=>HB y (by omega) h) (fun h=>HB b (by omega) h)
  rw[hT]at st
  refine caP (zsv (n*y) (n*f+k*(t-f)) (by omega) (by omega)) ?_
  iterate 2(try simp(etaStruct := .none)only[push_cast,zab,seval,E1,E2,E3];try refine xsu ?_)
  refine caP (zsv (n*b) (n*f+k*(t-f)) (by omega) (by omega)) ?_
  iterate 2(try simp(etaStruct := .none)only[push_cast,zab,seval,E1,E2,E3];try refine xsu ?_)
  refine gcP (fun hcc=>zsv y t (by omega) (by omega)) ?_
  iterate 2(try simp(etaStruct := .none)only[push_cast,zab,seval,E1,E2,E3];try refine xsu ?_)
  refine gcP (fun hcc=>zsv b t (by omega) (by omega)) ?_
  iterate 2(try simp(etaStruct := .none)only[push_cast,zab,seval,E1,E2,E3];try refine xsu ?_)
  refine cI (fun h2 => ?_) fun h2 => ?_
  ·iterate 2(try simp(etaStruct := .none)only[push_cast,zab,seval,E1,E2,E3];try refine xsu ?_)
   refine⟨(y+1,y),⟨⟨by simp only;omega,by simp only;omega⟩,⟨by simp only;omega,by simp only;omega⟩,fun h=>st.1 (by omega) h⟩,by simp only;omega,To.mk [] rfl rfl List.nodup_nil trivial ?_⟩
   ·(iterate 2((try simp(etaStruct := .none)only[push_cast,zab,seval,E1,E2,E3]);(try(refine xsu ?_;try exact xtI))))
  ·iterate 2(try simp(etaStruct := .none)only[push_cast,zab,seval,E1,E2,E3];try refine xsu ?_)
   refine⟨(y+1,b),⟨⟨by simp only;omega,by simp only;omega⟩,⟨by simp only;omega,by simp only;omega⟩,fun h=>st.2 (by omega) h⟩,by simp only;omega,To.mk [] rfl rfl List.nodup_nil trivial ?_⟩
   ·(iterate 2((try simp(etaStruct := .none)only[push_cast,zab,seval,E1,E2,E3]);(try(refine xsu ?_;try exact xtI))))
 ·iterate 2(try simp(etaStruct := .none)only[push_cast,zab,seval,E1,E2,E3];try refine xsu ?_)
  exact zbe rfl trivial (Wk.of (by rw[←HI (by omega)];rfl))
def zhy (o:Ord):Bool := !zap o.by_ 0 7 || !zap o.kind 1 5 || !zap o.who 0 1000000 || !zd0 o.c || !zap o.what 0 1000000
def zgv (o:Ord):Bool:=decide (o.kind=5∧o.who≠0)||decide (o.kind≠2∧o.kind≠3∧¬(o.c.x=0∧o.c.y=0))||decide (o.kind≠1∧o.kind≠5∧o.what≠0)
def zc7 (o:Ord):Int:=if zhy o then 1 else if zgv o then 4 else 0
theorem zec {o:Ord} (h:zc7 o=0):(0≤o.by_∧o.by_≤7)∧(1≤o.kind∧o.kind≤5)∧(0≤o.who∧o.who≤1000000)∧(-1000≤o.c.x∧o.c.x≤1000 ∧ -1000≤o.c.y∧o.c.y≤1000)∧(0≤o.what∧o.what≤1000000) ∧
 (o.kind=5→o.who=0)∧(o.kind≠2→o.kind≠3→o.c=⟨0,0⟩)∧(o.kind≠1→o.kind≠5→o.what=0):=by
 unfold zc7 at h
 split at h
 ·simp at h
 ·rename_i h1
  split at h
  ·simp at h
  ·rename_i h2
   simp only[zhy,Bool.or_eq_true,Bool.not_eq_true',not_or,Bool.not_eq_false,within_iff,zd0,decide_eq_true_eq]at h1
   simp only[zgv,Bool.or_eq_true,decide_eq_true_eq,not_or]at h2
   obtain⟨⟨⟨⟨a1,a2⟩,a3⟩,a4⟩,a5⟩:=h1
   refine⟨a1,a2,a3,a4,a5,fun h=>by omega,fun h h' => ?_,fun h h'=>by omega⟩
   have:o.c.x=0∧o.c.y=0:=by omega
   cases hc:o.c;rw[hc]at this;simp at this;rw[this.1,this.2]
def zh0:List Ord→Int
 | []=>0
 | o::r=>if zc7 o≠0 then zc7 o else zh0 r
theorem zmw:∀(l:List Ord) (k:Nat),k<l.length→zh0 (l.drop k)=if zc7 (l.getD k default)≠0 then zc7 (l.getD k default)else zh0 (l.drop (k+1)):=by
 intro l k hk
 rw[List.drop_eq_getElem_cons hk,zad _ _ hk];rfl
theorem zij (l:List Ord):∀k,k≤l.length→(∀j,j<k→zc7 (l.getD j default)=0)→zh0 l=zh0 (l.drop k)
 | 0,_,_=>by simp
 | k+1,hk,h=>by
  rw[zij l k (by omega) fun j hj=>h j (by omega),zmw l k (by omega),if_neg (fun h'=>h' (h k (by omega)))]
theorem zst:∀(l:List Ord),zh0 l=0→∀o∈l,zc7 o=0
 | [],_,o,ho=>by simp at ho
 | a::r,h,o,ho=>by
  unfold zh0 at h
  split at h
  ·rename_i h1;exact absurd h h1
  ·rename_i h1
   rcases List.mem_cons.1 ho with rfl|ho
   ·exact Decidable.not_not.1 h1
   ·exact zst r h o ho
def zcc (l:List Ord):Int:=if 100<l.length then 2 else zh0 l
theorem zfy {l:List Ord} (h:zcc l=0):l.length≤100∧∀o∈l,zc7 o=0:=by
 unfold zcc at h
 split at h
 ·simp at h
 ·rename_i h1;exact⟨by omega,zst l h⟩
def zcg (o:Ord):Ord:=⟨o.by_,o.kind,if o.kind=5 then 0 else o.who,if o.kind≠2∧o.kind≠3 then ⟨0,0⟩else o.c,if o.kind≠1∧o.kind≠5 then 0 else o.what⟩
theorem zcm (a b:Ord):(decide (a.by_=b.by_)&&(decide (a.kind=b.kind)&&(decide (a.who=b.who)&&(decide (a.c.x=b.c.x)&&(decide (a.c.y=b.c.y)&&decide (a.what=b.what))))))=decide (a=b):=by
 rw[Bool.eq_iff_iff];obtain⟨_,_,_,⟨_,_⟩,_⟩:=a;obtain⟨_,_,_,⟨_,_⟩,_⟩:=b;simp[and_assoc]
theorem zcf (o:Ord):decide (zcg o=o) = !zgv o:=by
 obtain⟨b,k,w,⟨x,y⟩,t⟩:=o
 unfold zcg zgv
 rw[Bool.eq_iff_iff]
 simp only[decide_eq_true_eq,Bool.not_eq_true',Bool.or_eq_false_iff,decide_eq_false_iff_not,Ord.mk.injEq,true_and]
 constructor
 ·rintro⟨h1,h2,h3⟩
  refine⟨⟨fun h => ?_,fun h => ?_⟩,fun h => ?_⟩
  ·rw[if_pos h.1]at h1;omega
  ·rw[if_pos ⟨h.1,h.2.1⟩]at h2;simp at h2;omega
  ·rw[if_pos ⟨h.1,h.2.1⟩]at h3;omega
 ·rintro⟨⟨h1,h2⟩,h3⟩
  refine⟨?_,?_,?_⟩
  ·split<;>omega
  ·split
   ·simp;omega
   ·rfl
  ·split<;>omega
theorem zma (c:Cel):(!zap c.x (-1000) 1000 || !zap c.y (-1000) 1000) = !zd0 c:=by
 unfold zap zd0
 rw[Bool.eq_iff_iff];simp;omega
theorem zfn (n a b:Int):Spec Tryz.prog 76 [I .i64 n,I .i64 a,I .i64 b] [] (B (zap n a b)) []:=by
 refine spB Tryz.func76 15 [.tmp 6] Tryz.results76 ?_
 try refine xst ?_
 exact zbe rfl trivial (Wk.of (congrArg B (by unfold zap;first|rfl|simp)))
theorem yf8 (o:Ord):Spec Tryz.prog 77 [zic o] [] (zic (zcg o)) []:=by
 refine spB Tryz.func77 27 [.cell 2 43] Tryz.results77 ?_
 try refine xst ?_
 refine cI (fun h1 => ?_) fun h1 => ?_
 ·try refine xst ?_
  refine cI (fun h2 => ?_) fun h2 => ?_
  ·try refine xst ?_
   refine cI (fun h3 => ?_) fun h3 => ?_
   ·try refine xst ?_
    (first|(refine zar rfl (Wk.of ?_);(try simp(etaStruct := .none)only[push_cast,zab,seval]);first|done|(simp[zcg, *];done)|(simp_all[zcg];done))|(refine zar rfl ?_;(try simp(etaStruct := .none)only[push_cast,zab,seval]);(try simp[zcg, *]);(try exact wkc)))
   ·have e2:¬(o.kind≠1∧o.kind≠5):=by omega
    try refine xst ?_
    (first|(refine zar rfl (Wk.of ?_);(try simp(etaStruct := .none)only[push_cast,zab,seval]);first|done|(simp[zcg, *];done)|(simp_all[zcg];done))|(refine zar rfl ?_;(try simp(etaStruct := .none)only[push_cast,zab,seval]);(try simp[zcg, *]);(try exact wkc)))
  ·have e1:¬(o.kind≠2∧o.kind≠3):=by omega
   try refine xst ?_
   refine cI (fun h4 => ?_) fun h4 => ?_
   ·try refine xst ?_
    (first|(refine zar rfl (Wk.of ?_);(try simp(etaStruct := .none)only[push_cast,zab,seval]);first|done|(simp[zcg, *];done)|(simp_all[zcg];done))|(refine zar rfl ?_;(try simp(etaStruct := .none)only[push_cast,zab,seval]);(try simp[zcg, *]);(try exact wkc)))
   ·have e2:¬(o.kind≠1∧o.kind≠5):=by omega
    try refine xst ?_
    (first|(refine zar rfl (Wk.of ?_);(try simp(etaStruct := .none)only[push_cast,zab,seval]);first|done|(simp[zcg, *];done)|(simp_all[zcg];done))|(refine zar rfl ?_;(try simp(etaStruct := .none)only[push_cast,zab,seval]);(try simp[zcg, *]);(try exact wkc)))
 ·try refine xst ?_
  refine cI (fun h5 => ?_) fun h5 => ?_
  ·try refine xst ?_
   refine cI (fun h6 => ?_) fun h6 => ?_
   ·try refine xst ?_
    (first|(refine zar rfl (Wk.of ?_);(try simp(etaStruct := .none)only[push_cast,zab,seval]);first|done|(simp[zcg, *];done)|(simp_all[zcg];done))|(refine zar rfl ?_;(try simp(etaStruct := .none)only[push_cast,zab,seval]);(try simp[zcg, *]);(try exact wkc)))
   ·have e2:o.kind=1:=by omega
    try refine xst ?_
    (first|(refine zar rfl (Wk.of ?_);(try simp(etaStruct := .none)only[push_cast,zab,seval]);first|done|(simp[zcg, *];done)|(simp_all[zcg];done))|(refine zar rfl ?_;(try simp(etaStruct := .none)only[push_cast,zab,seval]);(try simp[zcg, *]);(try exact wkc)))
  ·have e1:¬(o.kind≠2∧o.kind≠3):=by omega
   try refine xst ?_
   refine cI (fun h7 => ?_) fun h7 => ?_
   ·try refine xst ?_
    (first|(refine zar rfl (Wk.of ?_);(try simp(etaStruct := .none)only[push_cast,zab,seval]);first|done|(simp[zcg, *];done)|(simp_all[zcg];done))|(refine zar rfl ?_;(try simp(etaStruct := .none)only[push_cast,zab,seval]);(try simp[zcg, *]);(try exact wkc)))
   ·have e2:¬(o.kind≠1∧o.kind≠5):=by omega
    try refine xst ?_
    (first|(refine zar rfl (Wk.of ?_);(try simp(etaStruct := .none)only[push_cast,zab,seval]);first|done|(simp[zcg, *];done)|(simp_all[zcg];done))|(refine zar rfl ?_;(try simp(etaStruct := .none)only[push_cast,zab,seval]);(try simp[zcg, *]);(try exact wkc)))
theorem zf0 (o:Ord):Spec Tryz.prog 41 [zic o] [] (I .i64 (zc7 o)) []:=by
 refine spB Tryz.func41 43 [.tmp 2] Tryz.results41 ?_
 try refine xz2 (zcm (zcg o) o) (zcf o) ?_
 refine caP (zfn o.by_ 0 7) ?_
 try refine xz2 (zcm (zcg o) o) (zcf o) ?_
 refine gcP (fun hcc=>zfn o.kind 1 5) ?_
 try refine xz2 (zcm (zcg o) o) (zcf o) ?_
 refine gcP (fun hcc=>zfn o.who 0 1000000) ?_
 try refine xz2 (zcm (zcg o) o) (zcf o) ?_
 refine gcP (fun hcc=>zfn o.c.x (-1000) 1000) ?_
 try refine xz2 (zcm (zcg o) o) (zcf o) ?_
 refine gcP (fun hcc=>zfn o.c.y (-1000) 1000) ?_
 try refine xz2 (zcm (zcg o) o) (zcf o) ?_
 refine gcP (fun hcc=>zfn o.what 0 1000000) ?_
 try refine xz2 (zcm (zcg o) o) (zcf o) ?_
 refine cI (fun h1 => ?_) fun h1 => ?_
 ·have hb:zhy o=true:=by unfold zhy;rw[←zma];simpa[or_assoc]using h1
  try refine xz2 (zcm (zcg o) o) (zcf o) ?_
  (first|(refine zar rfl (Wk.of ?_);(try simp(etaStruct := .none)only[push_cast,zab,seval]);first|done|(simp[zc7,hb, *];done)|(simp_all[zc7,hb];done))|(refine zar rfl ?_;(try simp(etaStruct := .none)only[push_cast,zab,seval]);(try simp[zc7,hb, *]);(try exact wkc)))
 ·have hb:zhy o=false:=by unfold zhy;rw[←zma];simpa[and_assoc]using h1
  try refine xz2 (zcm (zcg o) o) (zcf o) ?_
  refine caP (yf8 o) ?_
  try refine xz2 (zcm (zcg o) o) (zcf o) ?_
  (try(refine⟨by kernel_rfl,?_⟩))
  try refine xz2 (zcm (zcg o) o) (zcf o) ?_
  refine cI (fun h2 => ?_) fun h2 => ?_
  ·try refine xz2 (zcm (zcg o) o) (zcf o) ?_
   (first|(refine zar rfl (Wk.of ?_);(try simp(etaStruct := .none)only[push_cast,zab,seval]);first|done|(simp[zc7,hb, *];done)|(simp_all[zc7,hb];done))|(refine zar rfl ?_;(try simp(etaStruct := .none)only[push_cast,zab,seval]);(try simp[zc7,hb, *]);(try exact wkc)))
  ·try refine xz2 (zcm (zcg o) o) (zcf o) ?_
   (first|(refine zar rfl (Wk.of ?_);(try simp(etaStruct := .none)only[push_cast,zab,seval]);first|done|(simp[zc7,hb, *];done)|(simp_all[zc7,hb];done))|(refine zar rfl ?_;(try simp(etaStruct := .none)only[push_cast,zab,seval]);(try simp[zc7,hb, *]);(try exact wkc)))
theorem zdt (o:Ord):Spec Tryz.prog 49 [zic o] [] (I .i64 (zc7 o)) []:=by
 refine spB Tryz.func49 85 [.tmp 2] Tryz.results49 ?_
 try refine xst ?_
 refine caP (zay o.by_ 0 7) ?_
 try refine xst ?_
 refine gcP (fun hcc=>zay o.kind 1 5) ?_
 try refine xst ?_
 refine gcP (fun hcc=>zay o.who 0 1000000) ?_
 try refine xst ?_
 refine gcP (fun hcc=>zy5 o.c) ?_
 try refine xst ?_
 refine gcP (fun hcc=>zay o.what 0 1000000) ?_
 try refine xst ?_
 refine cI (fun h1 => ?_) fun h1 => ?_
 ·have hb:zhy o=true:=by unfold zhy;simpa[or_assoc]using h1
  try refine xst ?_
  (first|(refine zar rfl (Wk.of ?_);(try simp(etaStruct := .none)only[push_cast,zab,seval]);first|done|(simp[zc7,hb, *];done)|(simp_all[zc7,hb];done))|(refine zar rfl ?_;(try simp(etaStruct := .none)only[push_cast,zab,seval]);(try simp[zc7,hb, *]);(try exact wkc)))
 ·have hb:zhy o=false:=by unfold zhy;simpa[and_assoc]using h1
  try refine xst ?_
  refine cI (fun h2 => ?_) fun h2 => ?_
  ·have hc:zgv o=true:=by unfold zgv;simp;omega
   try refine xst ?_
   (first|(refine zar rfl (Wk.of ?_);(try simp(etaStruct := .none)only[push_cast,zab,seval]);first|done|(simp[zc7,hb, *];done)|(simp_all[zc7,hb];done))|(refine zar rfl ?_;(try simp(etaStruct := .none)only[push_cast,zab,seval]);(try simp[zc7,hb, *]);(try exact wkc)))
  ·have hc:zgv o=false:=by unfold zgv;simp;omega
   try refine xst ?_
   (first|(refine zar rfl (Wk.of ?_);(try simp(etaStruct := .none)only[push_cast,zab,seval]);first|done|(simp[zc7,hb, *];done)|(simp_all[zc7,hb];done))|(refine zar rfl ?_;(try simp(etaStruct := .none)only[push_cast,zab,seval]);(try simp[zc7,hb, *]);(try exact wkc)))
theorem z1o (l:List Ord) (hl:l.length≤9223372036854775807):Spec Tryz.prog 78 [.c (.sl 6 (l.map zch))] [] (I .i64 (zcc l)) []:=by
 refine spB Tryz.func78 21 [.tmp 2] Tryz.results78 ?_
 try refine xst ?_
 refine cI (fun h1 => ?_) fun h1 => ?_
 ·have h1':100<l.length:=by omega
  try refine xst ?_
  (first|(refine zar rfl (Wk.of ?_);(try simp(etaStruct := .none)only[push_cast,zab,seval]);first|done|(simp[zcc, *];done)|(simp_all[zcc];done))|(refine zar rfl ?_;(try simp(etaStruct := .none)only[push_cast,zab,seval]);(try simp[zcc, *]);(try exact wkc)))
 ·try refine xst ?_
  refine zas (fun k:Nat=>⟨[(11,I .i64 k),(10,I .i64 l.length),(9,.c (.sl 6 (l.map zch)))],[],0⟩) (fun k:Nat=>k≤l.length∧∀j,j<k→zc7 (l.getD j default)=0) (fun k:Nat=>l.length-k) (0) (⟨Nat.zero_le _,fun j h=>by omega⟩) (To.mk [] rfl rfl List.nodup_nil trivial ?_) ?_
  ·simp(etaStruct := .none)only[push_cast,zab,seval]
  rintro k ⟨hk,hn⟩
  try refine xst ?_
  refine cI (fun h2 => ?_) fun h2 => ?_
  ·have hlt:k<l.length:=by omega
   try refine xz2 (gd hlt) za0 ?_
   refine caP (zf0 (l.getD k default)) ?_
   try refine xz2 (gd hlt) za0 ?_
   refine cI (fun h3 => ?_) fun h3 => ?_
   ·have e:zcc l=zc7 (l.getD k default):=by
     unfold zcc
     rw[if_neg (by omega),zij l k hk hn,zmw l k hlt,if_pos h3]
    try refine xz2 (gd hlt) za0 ?_
    (first|(refine zar rfl (Wk.of ?_);(try simp(etaStruct := .none)only[push_cast,zab,seval]);first|done|(simp[e, *];done)|(simp_all[e];done))|(refine zar rfl ?_;(try simp(etaStruct := .none)only[push_cast,zab,seval]);(try simp[e, *]);(try exact wkc)))
   ·try refine xz2 (gd hlt) za0 ?_
    refine⟨k+1,⟨by omega,fun j hj=>by rcases Nat.lt_or_ge j k with h|h;exact hn j h;rw[show j=k by omega];exact h3⟩,by omega,To.mk [] rfl rfl List.nodup_nil trivial ?_⟩
    ·(try(refine xz2 (gd hlt) za0 ?_;try exact xtI))
  ·have e:zcc l=0:=by
    unfold zcc
    rw[if_neg (by omega),zij l k hk hn,List.drop_eq_nil_of_le (by omega)];rfl
   try refine xst ?_
   (first|(refine zar rfl (Wk.of ?_);(try simp(etaStruct := .none)only[push_cast,zab,seval]);first|done|(simp[e, *];done)|(simp_all[e];done))|(refine zar rfl ?_;(try simp(etaStruct := .none)only[push_cast,zab,seval]);(try simp[e, *]);(try exact wkc)))
theorem zgt (l:List Ord) (hl:l.length≤9223372036854775807):Spec Tryz.prog 54 [.c (.sl 6 (l.map zch))] [] (I .i64 (zcc l)) []:=by
 refine spB Tryz.func54 25 [.tmp 2] Tryz.results54 ?_
 try refine xst ?_
 refine cI (fun h1 => ?_) fun h1 => ?_
 ·have h1':100<l.length:=by omega
  try refine xst ?_
  (first|(refine zar rfl (Wk.of ?_);(try simp(etaStruct := .none)only[push_cast,zab,seval]);first|done|(simp[zcc, *];done)|(simp_all[zcc];done))|(refine zar rfl ?_;(try simp(etaStruct := .none)only[push_cast,zab,seval]);(try simp[zcc, *]);(try exact wkc)))
 ·have h1':¬100<l.length:=by omega
  try refine xst ?_
  refine zas (fun k:Nat=>⟨[(4,I .i64 ((k:Int)-1)),(3,I .i64 (zh0 (l.drop k))),(0,.c (.sl 6 (l.map zch)))],[],0⟩) (fun k:Nat=>k≤l.length) (fun k:Nat=>k) (l.length) (Nat.le_refl _) (To.mk [] rfl rfl List.nodup_nil trivial ?_) ?_
  ·simp(etaStruct := .none)only[push_cast,zab,seval,List.drop_length,zh0]
  rintro k hk
  try refine xst ?_
  refine cI (fun h2 => ?_) fun h2 => ?_
  ·have hlt:k-1<l.length:=by omega
   have ek:((k:Int)-1).toNat=k-1:=by omega
   have ek2:((k-1:Nat):Int)=(k:Int)-1:=by omega
   have fe:=zmw l (k-1) hlt
   rw[show k-1+1=k by omega]at fe
   try refine xz3 ek (gd hlt) za0 ?_
   refine caP (zdt (l.getD (k-1) default)) ?_
   try refine xz3 ek (gd hlt) za0 ?_
   refine cI (fun h3 => ?_) fun h3 => ?_
   ·rw[if_pos h3]at fe
    try refine xz3 ek (gd hlt) za0 ?_
    refine⟨k-1,by omega,by omega,To.mk [] rfl rfl List.nodup_nil trivial ?_⟩
    ·(try(refine xz2 fe ek2 ?_;try exact xtI))
   ·rw[if_neg (by simpa using h3)]at fe
    try refine xz3 ek (gd hlt) za0 ?_
    refine⟨k-1,by omega,by omega,To.mk [] rfl rfl List.nodup_nil trivial ?_⟩
    ·(try(refine xz2 fe ek2 ?_;try exact xtI))
  ·obtain rfl:k=0:=by omega
   try refine xst ?_
   (first|(refine zar rfl (Wk.of ?_);(try simp(etaStruct := .none)only[push_cast,zab,seval]);first|done|(simp[zcc, *];done)|(simp_all[zcc];done))|(refine zar rfl ?_;(try simp(etaStruct := .none)only[push_cast,zab,seval]);(try simp[zcc, *]);(try exact wkc)))
end Go.Proofs.YtbapdgmcndgieaaGreat
namespace Go.Proofs.YtbapdgmcndgieaaGreat
set_option linter.all false
open Go.RowKit
set_option maxRecDepth 100000
theorem zrx (l:List Ord) (hl:l.length≤2932031007402):Spec Tryz.prog 39 [.c (.sl 6 (l.map zch))] [] (.own 0) [.row 43 6 (l.map zch)]:=by
 refine spB Tryz.func39 8 [.tmp 2] Tryz.results39 ?_
 try refine xst ?_
 intro b hb
 try refine xst ?_
 refine zal (fun h => ?_) (fun h => ?_)
 ·try refine xst ?_
  have e:=hb h
  refine znc (To.nil 2 43 6 rfl) (zco [0] rfl rfl (by decide) ⟨?_,trivial⟩ trivial ?_)
  ·simp(etaStruct := .none)only[push_cast,zab,seval,e]
  ·simp(etaStruct := .none)only[push_cast,zab,seval]
 ·try refine xst ?_
  refine zco [1] rfl rfl (by decide) ⟨?_,trivial⟩ trivial ?_
  ·simp(etaStruct := .none)only[push_cast,zab,seval]
  ·simp(etaStruct := .none)only[push_cast,zab,seval]
theorem zi0 (l:List Ord) (hl:l.length≤2932031007402):Spec Tryz.prog 39 [.c (.sl 6 (l.map zch))] [] (.c (.sl 6 (l.map zch))) []:=by
 refine spB Tryz.func39 8 [.tmp 2] Tryz.results39 ?_
 try refine xst ?_
 intro b hb
 try refine xst ?_
 refine zal (fun h => ?_) (fun h => ?_)
 ·try refine xst ?_
  exact zbe rfl trivial (by rw[hb h];exact Wk.nil _)
 ·try refine xst ?_
  exact zbe rfl trivial (Wk.refl _)
end Go.Proofs.YtbapdgmcndgieaaGreat
namespace Go.Proofs.YtbapdgmcndgieaaGreat
set_option linter.all false
open Go.RowKit
set_option maxRecDepth 100000
set_option maxHeartbeats 2000000
structure Sea where
 waits:List Ord
 late:Int
 gone:Bool
 deriving DecidableEq, Inhabited
def za7 (s:Sea):List PV := [.sl 6 (s.waits.map zch),pI s.late,pB s.gone]
theorem zam (s:Sea):za7 s = [.sl 6 (s.waits.map zch),pI s.late,pB s.gone]:=rfl
abbrev z74 (s:Sea):AV := .agg [.c (.sl 6 (s.waits.map zch)),I .i64 s.late,B s.gone]
def zdg (s:Sea):Prop:=s.waits.length≤2932031007402
def zgu (i:Int) (o:Ord):Bool := !decide (o.by_=i) || !decide (zc7 o=0)
def ziw (s:Sea):Bool := !zap s.late 0 1000000||(s.gone&&(!decide (s.late=0)||decide (0<s.waits.length)))
def znu (s:Sea) (i:Int):Bool := !ziw s && !s.waits.any (zgu i)
def za4 (l:List Sea):Int :=
 if l.length<1∨8<l.length then 1 else if l.any (fun s=>decide (50<s.waits.length))then 2 else
 if (List.range l.length).all (fun i=>znu (l.getD i default) i)then 0 else 4
theorem yem (F:FuncId) (a b:List AV) (l:List Ord) (p:Ord→Bool) (hl:l.length≤9223372036854775807) (hp:∀n∈l,Spec Tryz.prog F (a ++ [zic n]++b) [] (B (p n)) []) (ha:∀h,cvL [] h a=a) (hb:∀h,cvL [] h b=b) :
 Spec Tryz.prog 141 [.c (.sl 6 (l.map zch)),.clo (.func F) a b] [] (I .i64 (ze4 p l)) []:=by
 refine spB Tryz.func141 19 [.tmp 4] Tryz.results141 ?_
 simp(etaStruct := .none)only[push_cast,zab,seval]
 refine zas (fun k:Nat=>⟨[(8,I .i64 k),(7,I .i64 l.length),(0,.c (.sl 6 (l.map zch))),(1,.clo (.func F) a b)],[],0⟩) (fun k=>k≤l.length∧∀j (hj:j<l.length),j<k→p l[j]=false) (fun k=>l.length-k) 0 ⟨Nat.zero_le _,fun j _ h=>by omega⟩ (To.mk [] rfl rfl List.nodup_nil trivial ?_) ?_
 ·simp(etaStruct := .none)only[push_cast,zab,seval,ha,hb]
 ·rintro k ⟨hk,hn⟩
  simp(etaStruct := .none)only[push_cast,zab,seval]
  refine zal (fun h => ?_) (fun h => ?_)
  ·have hlt:k<l.length:=by simpa using h
   simp(etaStruct := .none)only[push_cast,zab,seval,zbn _ _ _ hlt,zch]
   repeat with_reducible refine obA ?_
   refine zct (hp _ (List.getElem_mem hlt)) (by simp only[zdr,ha,hb,cvL,cv];exact WkL.refl _) ?_
   simp(etaStruct := .none)only[push_cast,zab,seval]
   refine zal (fun h => ?_) (fun h => ?_)
   ·simp(etaStruct := .none)only[push_cast,zab,seval]
    exact zbe rfl trivial (Wk.of (by rw[zdc p l k hlt h hn];rfl))
   ·simp(etaStruct := .none)only[push_cast,zab,seval]
    refine⟨k+1,⟨by omega,fun j hj hjk => ?_⟩,by omega,To.mk [] rfl rfl List.nodup_nil trivial ?_⟩
    ·by_cases e:j=k
     ·subst e;exact h
     ·exact hn j hj (by omega)
    ·simp(etaStruct := .none)only[push_cast,zab,seval,ha,hb]
     simp(disch:=omega)only[zaq,zbl,tdv,tmd]
  ·have hge:k=l.length:=by simp at h;omega
   subst hge
   simp(etaStruct := .none)only[push_cast,zab,seval]
   exact zbe rfl trivial (Wk.of (by rw[zcs p l (fun j hj=>hn j hj hj)];rfl))
theorem yau (F:FuncId) (a b:List AV) (l:List Ord) (p:Ord→Bool) (hl:l.length≤9223372036854775807) (hp:∀n∈l,Spec Tryz.prog F (a ++ [zic n]++b) [] (B (p n)) []) (ha:∀h,cvL [] h a=a) (hb:∀h,cvL [] h b=b) :
 Spec Tryz.prog 105 [.c (.sl 6 (l.map zch)),.clo (.func F) a b] [] (B (l.any p)) []:=by
 refine spB Tryz.func105 9 [.tmp 4] Tryz.results105 ?_
 simp(etaStruct := .none)only[push_cast,zab,seval]
 refine zct (yem F a b l p hl hp ha hb) (by simp only[ha,hb,cvL,cv];exact WkL.refl _) ?_
 simp(etaStruct := .none)only[push_cast,zab,seval]
 exact zbe rfl trivial (Wk.of (by rw[zhi];rfl))
theorem yd2 (F:FuncId) (a b:List AV) (l:List Sea) (p:Sea→Bool) (hl:l.length≤9223372036854775807) (hp:∀n∈l,Spec Tryz.prog F (a ++ [z74 n]++b) [] (B (p n)) []) (ha:∀h,cvL [] h a=a) (hb:∀h,cvL [] h b=b) :
 Spec Tryz.prog 104 [.c (.sl 3 (l.map za7)),.clo (.func F) a b] [] (I .i64 (ze4 p l)) []:=by
 refine spB Tryz.func104 19 [.tmp 4] Tryz.results104 ?_
 simp(etaStruct := .none)only[push_cast,zab,seval]
 refine zas (fun k:Nat=>⟨[(8,I .i64 k),(7,I .i64 l.length),(0,.c (.sl 3 (l.map za7))),(1,.clo (.func F) a b)],[],0⟩) (fun k=>k≤l.length∧∀j (hj:j<l.length),j<k→p l[j]=false) (fun k=>l.length-k) 0 ⟨Nat.zero_le _,fun j _ h=>by omega⟩ (To.mk [] rfl rfl List.nodup_nil trivial ?_) ?_
 ·simp(etaStruct := .none)only[push_cast,zab,seval,ha,hb]
 ·rintro k ⟨hk,hn⟩
  simp(etaStruct := .none)only[push_cast,zab,seval]
  refine zal (fun h => ?_) (fun h => ?_)
  ·have hlt:k<l.length:=by simpa using h
   simp(etaStruct := .none)only[push_cast,zab,seval,zbn _ _ _ hlt,za7]
   repeat with_reducible refine obA ?_
   refine zct (hp _ (List.getElem_mem hlt)) (by simp only[zdr,ha,hb,cvL,cv];exact WkL.refl _) ?_
   simp(etaStruct := .none)only[push_cast,zab,seval]
   refine zal (fun h => ?_) (fun h => ?_)
   ·simp(etaStruct := .none)only[push_cast,zab,seval]
    exact zbe rfl trivial (Wk.of (by rw[zdc p l k hlt h hn];rfl))
   ·simp(etaStruct := .none)only[push_cast,zab,seval]
    refine⟨k+1,⟨by omega,fun j hj hjk => ?_⟩,by omega,To.mk [] rfl rfl List.nodup_nil trivial ?_⟩
    ·by_cases e:j=k
     ·subst e;exact h
     ·exact hn j hj (by omega)
    ·simp(etaStruct := .none)only[push_cast,zab,seval,ha,hb]
     simp(disch:=omega)only[zaq,zbl,tdv,tmd]
  ·have hge:k=l.length:=by simp at h;omega
   subst hge
   simp(etaStruct := .none)only[push_cast,zab,seval]
   exact zbe rfl trivial (Wk.of (by rw[zcs p l (fun j hj=>hn j hj hj)];rfl))
theorem z96 (F:FuncId) (a b:List AV) (l:List Sea) (p:Sea→Bool) (hl:l.length≤9223372036854775807) (hp:∀n∈l,Spec Tryz.prog F (a ++ [z74 n]++b) [] (B (p n)) []) (ha:∀h,cvL [] h a=a) (hb:∀h,cvL [] h b=b) :
 Spec Tryz.prog 65 [.c (.sl 3 (l.map za7)),.clo (.func F) a b] [] (B (l.any p)) []:=by
 refine spB Tryz.func65 9 [.tmp 4] Tryz.results65 ?_
 simp(etaStruct := .none)only[push_cast,zab,seval]
 refine zct (yd2 F a b l p hl hp ha hb) (by simp only[ha,hb,cvL,cv];exact WkL.refl _) ?_
 simp(etaStruct := .none)only[push_cast,zab,seval]
 exact zbe rfl trivial (Wk.of (by rw[zhi];rfl))
theorem yej (o:Ord) (i:Int):Spec Tryz.prog 106 ([] ++ [zic o] ++ [.fel 1 [[.v (.int .i64 i)]] 0 0]) [] (B (zgu i o)) []:=by
 refine spB Tryz.func106 13 [.tmp 3] Tryz.results106 ?_
 try refine xst ?_
 refine gcP (fun hcc=>zf0 o) ?_
 try refine xst ?_
 (first|(refine zar rfl (Wk.of ?_);(try simp(etaStruct := .none)only[push_cast,zab,seval]);first|done|(simp[zgu, *];done)|(simp_all[zgu];done))|(refine zar rfl ?_;(try simp(etaStruct := .none)only[push_cast,zab,seval]);(try simp[zgu, *]);(try exact wkc)))
theorem ziv (s:Sea):(decide (s.late<0)||decide (1000000<s.late)||(s.gone&&(!decide (s.late=0)||decide (0<(s.waits.length:Int)))))=ziw s:=by
 unfold ziw zap
 rw[Bool.eq_iff_iff];simp
theorem z4s (s:Sea) (i:Int) (hl:zdg s):Spec Tryz.prog 67 [z74 s,I .i64 i] [] (B (znu s i)) []:=by
 unfold zdg at hl
 refine spB Tryz.func67 33 [.tmp 4] Tryz.results67 ?_
 try refine xz1 (ziv s) ?_
 refine cI (fun h1 => ?_) fun h1 => ?_
 ·try refine xz1 (ziv s) ?_
  (first|(refine zar rfl (Wk.of ?_);(try simp(etaStruct := .none)only[push_cast,zab,seval]);first|done|(simp[znu, *];done)|(simp_all[znu];done))|(refine zar rfl ?_;(try simp(etaStruct := .none)only[push_cast,zab,seval]);(try simp[znu, *]);(try exact wkc)))
 ·try refine xz1 (ziv s) ?_
  refine zbv (yau _ [] [.fel 1 [[.v (.int .i64 i)]] 0 0] s.waits (zgu i) (by omega) (fun o _=>yej o i) (fun _=>rfl) (fun _=>rfl)) (WkL.refl _) rfl ?_
  try refine xz1 (ziv s) ?_
  (first|(refine zar rfl (Wk.of ?_);(try simp(etaStruct := .none)only[push_cast,zab,seval]);first|done|(simp[znu, *];done)|(simp_all[znu];done))|(refine zar rfl ?_;(try simp(etaStruct := .none)only[push_cast,zab,seval]);(try simp[znu, *]);(try exact wkc)))
theorem yd3 (s:Sea) (hl:zdg s):Spec Tryz.prog 66 ([] ++ [z74 s] ++ []) [] (B (decide (50<s.waits.length))) []:=by
 unfold zdg at hl
 refine spB Tryz.func66 7 [.tmp 2] Tryz.results66 ?_
 try refine xst ?_
 exact zbe rfl trivial (Wk.of (congrArg B (by rw[Bool.eq_iff_iff];simp;omega)))
theorem zeh (l:List Sea) (hl:l.length≤9223372036854775807) (hs:∀s∈l,zdg s):Spec Tryz.prog 31 [.c (.sl 3 (l.map za7))] [] (I .i64 (za4 l)) []:=by
 refine spB Tryz.func31 27 [.tmp 2] Tryz.results31 ?_
 try refine xst ?_
 refine cI (fun h1 => ?_) fun h1 => ?_
 ·have e:za4 l=1:=by unfold za4;rw[if_pos (by omega)]
  try refine xst ?_
  (first|(refine zar rfl (Wk.of ?_);(try simp(etaStruct := .none)only[push_cast,zab,seval]);first|done|(simp[e, *];done)|(simp_all[e];done))|(refine zar rfl ?_;(try simp(etaStruct := .none)only[push_cast,zab,seval]);(try simp[e, *]);(try exact wkc)))
 ·try refine xst ?_
  refine caP (z96 _ [] [] l (fun s=>decide (50<s.waits.length)) hl (fun s hh=>yd3 s (hs s hh)) (fun _=>rfl) (fun _=>rfl)) ?_
  try refine xst ?_
  refine cI (fun h2 => ?_) fun h2 => ?_
  ·have e:za4 l=2:=by unfold za4;rw[if_neg (by omega),if_pos h2]
   try refine xst ?_
   (first|(refine zar rfl (Wk.of ?_);(try simp(etaStruct := .none)only[push_cast,zab,seval]);first|done|(simp[e, *];done)|(simp_all[e];done))|(refine zar rfl ?_;(try simp(etaStruct := .none)only[push_cast,zab,seval]);(try simp[e, *]);(try exact wkc)))
  ·try refine xst ?_
   refine zas (fun k:Nat=>⟨[(17,I .i64 k),(16,I .i64 l.length),(15,.c (.sl 3 (l.map za7)))],[],0⟩) (fun k:Nat=>k≤l.length∧∀j,j<k→znu (l.getD j default) j=true) (fun k:Nat=>l.length-k) (0) (⟨Nat.zero_le _,fun j h=>by omega⟩) (To.mk [] rfl rfl List.nodup_nil trivial ?_) ?_
   ·simp(etaStruct := .none)only[push_cast,zab,seval]
   rintro k ⟨hk,hn⟩
   try refine xst ?_
   refine cI (fun h3 => ?_) fun h3 => ?_
   ·have hlt:k<l.length:=by omega
    try refine xz2 (gd hlt) zam ?_
    refine caP (z4s (l.getD k default) k (hs _ (by rw[zad _ _ hlt];exact List.getElem_mem hlt))) ?_
    try refine xz2 (gd hlt) zam ?_
    refine cI (fun h4 => ?_) fun h4 => ?_
    ·have e:za4 l=4:=by
      unfold za4
      rw[if_neg (by omega),if_neg (by rw[h2];simp),if_neg]
      rw[List.all_eq_true]
      intro hh
      have:=hh k (by simp;omega)
      rw[h4]at this;simp at this
     try refine xz2 (gd hlt) zam ?_
     (first|(refine zar rfl (Wk.of ?_);(try simp(etaStruct := .none)only[push_cast,zab,seval]);first|done|(simp[e, *];done)|(simp_all[e];done))|(refine zar rfl ?_;(try simp(etaStruct := .none)only[push_cast,zab,seval]);(try simp[e, *]);(try exact wkc)))
    ·try refine xz2 (gd hlt) zam ?_
     refine⟨k+1,⟨by omega,fun j hj=>by rcases Nat.lt_or_ge j k with h|h;exact hn j h;rw[show j=k by omega];exact h4⟩,by omega,To.mk [] rfl rfl List.nodup_nil trivial ?_⟩
     ·(try(refine xz2 (gd hlt) zam ?_;try exact xtI))
   ·have e:za4 l=0:=by
     unfold za4
     rw[if_neg (by omega),if_neg (by rw[h2];simp),if_pos]
     rw[List.all_eq_true]
     intro i hi
     exact hn i (by simp at hi;omega)
    try refine xst ?_
    (first|(refine zar rfl (Wk.of ?_);(try simp(etaStruct := .none)only[push_cast,zab,seval]);first|done|(simp[e, *];done)|(simp_all[e];done))|(refine zar rfl ?_;(try simp(etaStruct := .none)only[push_cast,zab,seval]);(try simp[e, *]);(try exact wkc)))
theorem z7y (l:List Sea) (hl:l.length≤100000) (hs:∀s∈l,zdg s):Spec Tryz.prog 42 [.c (.sl 3 (l.map za7))] [] (.own 0) [.row 68 3 (l.map za7)]:=by
 refine spB Tryz.func42 25 [.tmp 2] Tryz.results42 ?_
 iterate 2(try simp(etaStruct := .none)only[push_cast,zab,seval,List.length_take,List.length_map];try refine xsu ?_)
 refine zas (fun k:Nat=>⟨[(11,I .i64 k),(10,I .i64 l.length),(9,.c (.sl 3 (l.map za7))),(3,.own 0)],[(0,.row 68 3 ((l.take k).map za7))],1⟩) (fun k:Nat=>k≤l.length) (fun k:Nat=>l.length-k) (0) (Nat.zero_le _) (To.mk [0] rfl rfl (by decide) ?_ ?_) ?_
 ·simp(etaStruct := .none)only[push_cast,zab,seval]
 ·simp(etaStruct := .none)only[push_cast,zab,seval]
 rintro k hk
 iterate 2(try simp(etaStruct := .none)only[push_cast,zab,seval,List.length_take,List.length_map];try refine xsu ?_)
 refine cI (fun h1 => ?_) fun h1 => ?_
 ·have hlt:k<l.length:=by omega
  iterate 2(try simp(etaStruct := .none)only[push_cast,zab,seval,List.length_take,List.length_map,zaa _ _ _ hlt,za7];try refine xsu ?_)
  have ts:=zav l k hlt
  refine caP (zi0 (l.getD k default).waits (hs _ (by rw[zad _ _ hlt];exact List.getElem_mem hlt))) ?_
  iterate 2(try simp(etaStruct := .none)only[push_cast,zab,seval,List.length_take,List.length_map,zaa _ _ _ hlt,za7];try refine xsu ?_)
  refine⟨k+1,by omega,by omega,To.mk [3] rfl rfl (by decide) ?_ ?_⟩
  ·(iterate 2((try simp(etaStruct := .none)only[push_cast,zab,seval,ts,List.map_append,za7]);(try(refine xsu ?_;try exact xtI))))
  ·(iterate 2((try simp(etaStruct := .none)only[push_cast,zab,seval,List.length_take,List.length_map,zaa _ _ _ hlt,za7]);(try(refine xsu ?_;try exact xtI))))
 ·obtain rfl:k=l.length:=by omega
  iterate 2(try simp(etaStruct := .none)only[push_cast,zab,seval,List.length_take,List.length_map];try refine xsu ?_)
  refine zco [0] rfl rfl (by decide) ⟨?_,trivial⟩ trivial ?_
  ·simp(etaStruct := .none)only[push_cast,zab,seval,List.take_length]
  ·simp(etaStruct := .none)only[push_cast,zab,seval]
end Go.Proofs.YtbapdgmcndgieaaGreat
namespace Go.Proofs.YtbapdgmcndgieaaGreat
set_option linter.all false
open Go.RowKit
def tkS (most:Int):List Ord→List Sea→List Ord × List Sea
 | out,[]=>(out,[])
 | out,s::r =>
  if 0<s.waits.length∧(out.length:Int)<most then ((tkS most (out ++ [s.waits.getD 0 default]) r).1,⟨s.waits.drop 1,s.late,s.gone⟩::(tkS most (out ++ [s.waits.getD 0 default]) r).2)
  else ((tkS most out r).1,s::(tkS most out r).2)
def yc4 (l:List Sea):Nat:=(l.map fun s=>s.waits.length).sum
theorem ztr (most:Int):∀(l:List Sea) (out:List Ord),(tkS most out l).1.length+yc4 (tkS most out l).2=out.length+yc4 l
 | [],out=>by simp[tkS,yc4]
 | s::r,out=>by
  unfold tkS
  split
  ·rename_i h
   have:=ztr most r (out ++ [s.waits.getD 0 default])
   simp only[yc4,List.map_cons,List.sum_cons,List.length_append,List.length_cons,List.length_nil,List.length_drop]at this ⊢
   omega
  ·have:=ztr most r out
   simp only[yc4,List.map_cons,List.sum_cons]at this ⊢
   omega
theorem zvn (most:Int):∀(l:List Sea) (out:List Ord),out.length≤(tkS most out l).1.length
 | [],out=>by simp[tkS]
 | s::r,out=>by
  unfold tkS
  split
  ·have:=zvn most r (out ++ [s.waits.getD 0 default]);simp only[List.length_append,List.length_cons,List.length_nil]at this ⊢;omega
  ·exact zvn most r out
theorem zz8 (most:Int):∀(l:List Sea) (out:List Ord),(out.length:Int)≤max most 0→((tkS most out l).1.length:Int)≤max most 0
 | [],out,h=>by simpa[tkS]using h
 | s::r,out,h=>by
  unfold tkS
  split
  ·exact zz8 most r _ (by simp;omega)
  ·exact zz8 most r out h
theorem zz7 (most:Int):∀(l:List Sea) (out:List Ord),(tkS most out l).2.length=l.length
 | [],out=>by simp[tkS]
 | s::r,out=>by unfold tkS;split<;>simp[zz7 most r]
theorem zvm (most:Int):∀(l:List Sea) (out:List Ord),(tkS most out l).1.length=out.length→tkS most out l=(out,l)
 | [],out,_=>by simp[tkS]
 | s::r,out,h=>by
  unfold tkS at h ⊢
  split at h
  ·have:=zvn most r (out ++ [s.waits.getD 0 default])
   simp only[List.length_append,List.length_cons,List.length_nil]at this h
   omega
  ·rename_i hc
   rw[if_neg hc,zvm most r out h]
def ztb (most:Int) (x:List Ord × List Sea):Prop:=¬((x.1.length:Int)<most)∨∀s∈x.2,s.waits.length=0
theorem zox {most:Int} : ∀ {l:List Sea} {out:List Ord},ztb most (out,l)→tkS most out l=(out,l)
 | [],out,_=>by simp[tkS]
 | s::r,out,h=>by
  have hc:¬(0<s.waits.length∧(out.length:Int)<most):=by
   rcases h with h|h
   ·exact fun q=>h q.2
   ·have:=h s (by simp);omega
  unfold tkS
  rw[if_neg hc,zox (l:=r) (out:=out) (by rcases h with h|h;exact .inl h;exact .inr fun s hs=>h s (by simp[hs]))]
theorem z0f {most:Int} {x:List Ord × List Sea} (h:ztb most x):tkS most x.1 x.2=x:=by
 obtain⟨a,b⟩:=x
 exact zox h
def itS (most:Int):Nat→List Ord × List Sea→List Ord × List Sea
 | 0,x=>x
 | n+1,x=>itS most n (tkS most x.1 x.2)
theorem zjb (most:Int):∀(n:Nat) (x:List Ord × List Sea),itS most (n+1) x=tkS most (itS most n x).1 (itS most n x).2
 | 0,x=>rfl
 | n+1,x=>by rw[itS,zjb most n];rfl
theorem zuj (most:Int) (x:List Ord × List Sea) (a:Nat) (h:tkS most (itS most a x).1 (itS most a x).2=itS most a x):∀d,itS most (a+d) x=itS most a x
 | 0=>rfl
 | d+1=>by rw[←Nat.add_assoc,zjb,zuj most x a h d,h]
theorem yfk (most:Int) (x:List Ord × List Sea) (a b:Nat) (ha:tkS most (itS most a x).1 (itS most a x).2=itS most a x) (hb:tkS most (itS most b x).1 (itS most b x).2=itS most b x):itS most a x=itS most b x:=by
 rcases Nat.le_total a b with h|h
 ·rw[show b=a+(b-a)by omega,zuj most x a ha]
 ·rw[show a=b+(a-b)by omega,zuj most x b hb]
def zb5 (s:Sea):Sea:=⟨s.waits,if 0<s.waits.length then 0 else if s.gone then s.late else min (s.late+1) 1000000,s.gone⟩
def zdn (most:Int) (l:List Sea):List Ord × List Sea:=itS most 50 ([],l.map zb5)
theorem zz6 (most:Int) (n:Nat):∀(l:List Sea) (out:List Ord),((tkS most out l).1.length:Int)<most→(∀s∈l,s.waits.length≤n+1)→∀s∈(tkS most out l).2,s.waits.length≤n
 | [],out,_,_,s,hs=>by simp[tkS]at hs
 | x::r,out,h,hl,s,hs=>by
  unfold tkS at h hs
  split at h
  ·rename_i hc
   rw[if_pos hc]at hs
   simp only at h hs
   rcases List.mem_cons.1 hs with rfl|hs
   ·have:=hl x (by simp);simp only[List.length_drop];omega
   ·exact zz6 most n r _ h (fun s hs=>hl s (by simp[hs])) s hs
  ·rename_i hc
   rw[if_neg hc]at hs
   simp only at h hs
   rcases List.mem_cons.1 hs with rfl|hs
   ·have:=zvn most r out;omega
   ·exact zz6 most n r _ h (fun s hs=>hl s (by simp[hs])) s hs
theorem z8p {most:Int} {x:List Ord × List Sea} (h:ztb most x):∀n,itS most n x=x
 | 0=>rfl
 | n+1=>by
  have:=zox (l:=x.2) (out:=x.1) h
  rw[itS,this];exact z8p h n
theorem zw0 (most:Int):∀(n:Nat) (x:List Ord × List Sea),(∀s∈x.2,s.waits.length≤n)→ztb most (itS most n x)
 | 0,x,h => .inr fun s hs=>Nat.le_zero.1 (h s hs)
 | n+1,x,h=>by
  rw[itS]
  by_cases hc:((tkS most x.1 x.2).1.length:Int)<most
  ·exact zw0 most n _ (zz6 most n x.2 x.1 hc h)
  ·have hs:ztb most (tkS most x.1 x.2) := .inl hc
   rw[z8p hs];exact hs
theorem z68 {most:Int} {l:List Sea} {n:Nat} (hw:∀s∈l,s.waits.length≤50) (h:tkS most (itS most n ([],l.map zb5)).1 (itS most n ([],l.map zb5)).2=itS most n ([],l.map zb5)):zdn most l=itS most n ([],l.map zb5):=by
 have hs:∀m,50≤m→tkS most (itS most m ([],l.map zb5)).1 (itS most m ([],l.map zb5)).2=itS most m ([],l.map zb5):=fun m hm=>by
  refine z0f (zw0 most m _ fun s hs => ?_)
  obtain⟨t,ht,rfl⟩:=List.mem_map.1 hs
  exact Nat.le_trans (hw t ht) hm
 have key:∀m,50≤m→itS most m ([],l.map zb5)=itS most n ([],l.map zb5):=fun m hm=>yfk most _ m n (hs m hm) h
 unfold zdn
 exact key 50 (Nat.le_refl _)
theorem zcn {l:List Sea} (h:za4 l=0):1≤l.length∧l.length≤8∧(∀s∈l,s.waits.length≤50)∧∀k,k<l.length→znu (l.getD k default) k=true:=by
 unfold za4 at h
 split at h
 ·simp at h
 ·split at h
  ·simp at h
  ·rename_i h1 h2
   split at h
   ·rename_i h3
    refine⟨by omega,by omega,fun s hs => ?_,fun k hk => ?_⟩
    ·simp only[List.any_eq_true,decide_eq_true_eq,not_exists,not_and]at h2
     have:=h2 s hs;omega
    ·exact List.all_eq_true.1 h3 k (by simpa using hk)
   ·simp at h
theorem z0s {s:Sea} {i:Int} (h:znu s i=true):(0≤s.late∧s.late≤1000000)∧(s.gone=true→s.late=0∧s.waits.length=0)∧∀o∈s.waits,o.by_=i∧zc7 o=0:=by
 unfold znu ziw at h
 simp only[Bool.and_eq_true,Bool.not_eq_true',Bool.or_eq_false_iff,Bool.not_eq_false',within_iff,List.any_eq_false]at h
 refine⟨h.1.1,fun hg => ?_,fun o ho => ?_⟩
 ·have:=h.1.2
  rw[hg]at this
  simp at this
  exact⟨this.1,by rw[this.2];rfl⟩
 ·have:=h.2 o ho
  unfold zgu at this
  simp at this
  exact this
theorem zuu {α : Type} [Inhabited α] (l:List α) (i:Nat) (h:i<l.length):l.drop i=l.getD i default::l.drop (i+1):=by rw[List.drop_eq_getElem_cons h,zad _ _ h]
theorem z44 {l:List Sea} {i:Nat} {x:Sea} (h:∀s∈l,zdg s) (hx:zdg x):∀s∈l.set i x,zdg s:=fun s hs=>by
 rcases List.mem_or_eq_of_mem_set hs with h'|h'
 ·exact h s h'
 ·rw[h'];exact hx
end Go.Proofs.YtbapdgmcndgieaaGreat
namespace Go.Proofs.YtbapdgmcndgieaaGreat
set_option linter.all false
open Go.RowKit
set_option maxRecDepth 100000
set_option maxHeartbeats 1000000
def zdf (w:Wld):Prop:=w.f.p.length≤9223372036854775807∧w.bases.length≤9223372036854775807∧w.stocks.length≤9223372036854775807∧w.mines.length≤9223372036854775807∧w.troops.length≤9223372036854775807
abbrev zhq (w:Wld):List AV := [I .i64 w.f.w,I .i64 w.f.h,.c (.sl 1 (w.f.p.map zac)),.c (.sl 2 (w.bases.map zaz)),.c (.sl 1 (w.stocks.map zac)),.c (.sl 1 (w.mines.map zac)),.c (.sl 7 (w.troops.map zaw)),I .i64 w.next,I .i64 w.now]
abbrev z38 (t:Trp):AV := .agg [I .i64 t.id,I .i64 t.owner,I .i64 t.kind,I .i64 t.c.x,I .i64 t.c.y,I .i64 t.life,I .i64 t.load]
abbrev ygo (t:Trp):List AV := [I .i64 t.id,I .i64 t.owner,I .i64 t.kind,I .i64 t.c.x,I .i64 t.c.y,I .i64 t.life,I .i64 t.load]
theorem ztg {w:Wld} (hf:zbp w.f=0) (hb:¬(8<w.bases.length∨100<w.troops.length)) (h:zge w=false):zah w=4:=by
 unfold zah;rw[if_neg (by simp[hf]),if_neg hb,h];rfl
theorem zno {w:Wld} (hf:zbp w.f=0) (hb:¬(8<w.bases.length∨100<w.troops.length)) (h:ze7 w=false):zah w=4:=by
 unfold zah;rw[if_neg (by simp[hf]),if_neg hb,h];simp
theorem zlb {w:Wld} (hf:zbp w.f=0) (hb:¬(8<w.bases.length∨100<w.troops.length)) (h1:zge w=true) (h:ze7 w=true):zah w=0:=by
 unfold zah;rw[if_neg (by simp[hf]),if_neg hb,h1,h];rfl
theorem zth {w:Wld} {k:Nat} (hk:k<w.troops.length) (h:zap (w.troops.getD k default).kind 1 2=false):ze7 w=false:=by
 have:zde (zdj w) w.troops.length=false:=by
  rw[←Bool.not_eq_true,zbo];intro hh
  have:=hh k hk
  unfold zdj at this;rw[h]at this;simp at this
 unfold ze7;rw[this];simp
theorem zm2 (a b:Cel):(!(decide (a.x=b.x)&&decide (a.y=b.y))) = !decide (a=b):=by rw[zbz]
theorem ze6 (w:Wld) (hl:zdf w):Spec Tryz.prog 29 [zbk w] [] (I .i64 (zah w)) []:=by
 obtain⟨l1,l2,l3,l4,l5⟩:=hl
 refine spB Tryz.func29 213 [.tmp 2] Tryz.results29 ?_
 try refine xst ?_
 refine caP (zqa w.f l1) ?_
 try refine xst ?_
 refine cI (fun h1 => ?_) fun h1 => ?_
 ·have e:zah w=zbp w.f:=by unfold zah;rw[if_pos (by simpa using h1)]
  try refine xst ?_
  (first|(refine zar rfl (Wk.of ?_);(try simp(etaStruct := .none)only[push_cast,zab,seval]);first|done|(simp[e, *];done)|(simp_all[e];done))|(refine zar rfl ?_;(try simp(etaStruct := .none)only[push_cast,zab,seval]);(try simp[e, *]);(try exact wkc)))
 ·have hf:zbp w.f=0:=by simpa using h1
  have hfo:=zba hf
  try refine xst ?_
  refine cI (fun h2 => ?_) fun h2 => ?_
  ·have e:zah w=2:=by unfold zah;rw[if_neg (by simp[hf]),if_pos (by omega)]
   try refine xst ?_
   (first|(refine zar rfl (Wk.of ?_);(try simp(etaStruct := .none)only[push_cast,zab,seval]);first|done|(simp[e, *];done)|(simp_all[e];done))|(refine zar rfl ?_;(try simp(etaStruct := .none)only[push_cast,zab,seval]);(try simp[e, *]);(try exact wkc)))
  ·have hb:¬(8<w.bases.length∨100<w.troops.length):=by omega
   try refine xst ?_
   refine gcP (fun hcc=>zay _ _ _) ?_
   try refine xst ?_
   refine gcP (fun hcc=>zay _ _ _) ?_
   try refine xst ?_
   refine cI (fun h3 => ?_) fun h3 => ?_
   ·have e:zah w=4:=by
     refine ztg hf hb ?_
     unfold zge
     simp only[Bool.and_eq_false_iff,decide_eq_false_iff_not]
     rcases h3 with ((h|h)|h)|h
     ·exact .inl (.inl (.inl (by omega)))
     ·exact .inl (.inl (.inr (by omega)))
     ·exact .inl (.inr h)
     ·exact .inr h
    try refine xst ?_
    (first|(refine zar rfl (Wk.of ?_);(try simp(etaStruct := .none)only[push_cast,zab,seval]);first|done|(simp[e, *];done)|(simp_all[e];done))|(refine zar rfl ?_;(try simp(etaStruct := .none)only[push_cast,zab,seval]);(try simp[e, *]);(try exact wkc)))
   ·have hwf:zge w=true:=by
     unfold zge
     simp only[Bool.and_eq_true,decide_eq_true_eq]
     exact⟨⟨⟨by omega,by omega⟩,h3.1.2⟩,h3.2⟩
    have hnx:=within_iff.1 h3.1.2
    have hls:w.stocks.length=w.bases.length:=by omega
    have hlm:w.mines.length=w.f.p.length:=by omega
    try refine xst ?_
    refine zas (fun k:Nat=>⟨[(61,I .i64 k),(60,I .i64 w.bases.length),(4,B (zde (zhv w) k)),(1,.ptr 0 0 0)],[(0,.blk 28 (zhq w))],1⟩) (fun k:Nat=>k≤w.bases.length) (fun k:Nat=>w.bases.length-k) (0) (Nat.zero_le _) (To.mk [0] rfl rfl (by decide) ?_ ?_) ?_
    ·simp(etaStruct := .none)only[push_cast,zab,seval]
    ·simp(etaStruct := .none)only[push_cast,zab,seval,zde]
    rintro k hk
    try refine xst ?_
    refine cI (fun h4 => ?_) fun h4 => ?_
    ·have hlt:k<w.bases.length:=by omega
     have hlt2:k<w.stocks.length:=by omega
     try refine xz4 (gd hlt) zao (gd hlt2) zak ?_
     refine gcP (fun hcc=>zp7 w.f (w.bases.getD k default) hf) ?_
     try refine xz4 (gd hlt) zao (gd hlt2) zak ?_
     refine gcP (fun hcc=>zay (w.stocks.getD k default) 0 1000000) ?_
     try refine xz4 (gd hlt) zao (gd hlt2) zak ?_
     (try(refine⟨by kernel_rfl,?_⟩))
     try refine xz4 (gd hlt) zao (gd hlt2) zak ?_
     refine zas (fun j:Nat=>⟨[(84,I .i64 j),(83,I .i64 k),(61,I .i64 k),(60,I .i64 w.bases.length),(5,I .i64 k),(4,B (((zde (zhv w) k&&zbw w.f (w.bases.getD k default))&&zap (w.stocks.getD k default) 0 1000000)&&zde (fun j => !decide (w.bases.getD j default=w.bases.getD k default)) j)),(1,.ptr 0 0 0)],[(0,.blk 28 (zhq w))],1⟩) (fun j:Nat=>j≤k) (fun j:Nat=>k-j) (0) (Nat.zero_le _) (To.mk [0] rfl rfl (by decide) ?_ ?_) ?_
     ·simp(etaStruct := .none)only[push_cast,zab,seval]
     ·simp(etaStruct := .none)only[push_cast,zab,seval,zde,Bool.and_true]
     rintro j hj
     try refine xz4 (gd hlt) zao (gd hlt2) zak ?_
     refine cI (fun h5 => ?_) fun h5 => ?_
     ·have hltj:j<w.bases.length:=by omega
      try refine xz7 (gd hlt) zao (gd hlt2) zak (gd hltj) zm2 zbz ?_
      (try(refine⟨by kernel_rfl,?_⟩))
      try refine xz7 (gd hlt) zao (gd hlt2) zak (gd hltj) zm2 zbz ?_
      refine⟨j+1,by omega,by omega,To.mk [0] rfl rfl (by decide) ?_ ?_⟩
      ·(try(refine xz7 (gd hlt) zao (gd hlt2) zak (gd hltj) zm2 zbz ?_;try exact xtI))
      ·(iterate 2((try simp(etaStruct := .none)only[push_cast,zab,seval,zde,←Bool.and_assoc]);(try(refine xsu ?_;try exact xtI))))
     ·obtain rfl:k=j:=by omega
      try refine xz4 (gd hlt) zao (gd hlt2) zak ?_
      refine⟨k+1,by omega,by omega,To.mk [0] rfl rfl (by decide) ?_ ?_⟩
      ·(try(refine xz4 (gd hlt) zao (gd hlt2) zak ?_;try exact xtI))
      ·(iterate 2((try simp(etaStruct := .none)only[push_cast,zab,seval,zde,zhv,←Bool.and_assoc]);(try(refine xsu ?_;try exact xtI))))
    ·obtain rfl:k=w.bases.length:=by omega
     try refine xst ?_
     refine zas (fun k:Nat=>⟨[(106,I .i64 k),(105,I .i64 w.mines.length),(104,.c (.sl 1 (w.mines.map zac))),(4,B (zde (zhv w) w.bases.length&&zde (zi4 w) k)),(1,.ptr 0 0 0)],[(0,.blk 28 (zhq w))],1⟩) (fun k:Nat=>k≤w.mines.length) (fun k:Nat=>w.mines.length-k) (0) (Nat.zero_le _) (To.mk [0] rfl rfl (by decide) ?_ ?_) ?_
     ·simp(etaStruct := .none)only[push_cast,zab,seval]
     ·simp(etaStruct := .none)only[push_cast,zab,seval,zde,Bool.and_true]
     rintro k hk
     try refine xst ?_
     refine cI (fun h6 => ?_) fun h6 => ?_
     ·have hlt:k<w.mines.length:=by omega
      have hlt2:k<w.f.p.length:=by omega
      try refine xz3 (gd hlt) (gd hlt2) zak ?_
      refine gcP (fun hcc=>zay (w.mines.getD k default) 0 1000000) ?_
      try refine xz3 (gd hlt) (gd hlt2) zak ?_
      refine⟨k+1,by omega,by omega,To.mk [0] rfl rfl (by decide) ?_ ?_⟩
      ·(try(refine xz3 (gd hlt) (gd hlt2) zak ?_;try exact xtI))
      ·(iterate 2((try simp(etaStruct := .none)only[push_cast,zab,seval,zde,zi4,←Bool.and_assoc]);(try(refine xsu ?_;try exact xtI))))
     ·obtain rfl:k=w.mines.length:=by omega
      try refine xst ?_
      refine zas (fun k:Nat=>⟨[(133,I .i64 k),(132,I .i64 w.troops.length),(131,.c (.sl 7 (w.troops.map zaw))),(4,B ((zde (zhv w) w.bases.length&&zde (zi4 w) w.mines.length)&&zde (zdj w) k)),(1,.ptr 0 0 0)],[(0,.blk 28 (zhq w))],1⟩) (fun k:Nat=>k≤w.troops.length) (fun k:Nat=>w.troops.length-k) (0) (Nat.zero_le _) (To.mk [0] rfl rfl (by decide) ?_ ?_) ?_
      ·simp(etaStruct := .none)only[push_cast,zab,seval]
      ·simp(etaStruct := .none)only[push_cast,zab,seval,zde,Bool.and_true]
      rintro k hk
      try refine xst ?_
      refine cI (fun h7 => ?_) fun h7 => ?_
      ·have hlt:k<w.troops.length:=by omega
       try refine xz2 (gd hlt) zae ?_
       refine caP (zay (w.troops.getD k default).kind 1 2) ?_
       try refine xz2 (gd hlt) zae ?_
       refine cI (fun h8 => ?_) fun h8 => ?_
       ·have e:zah w=4:=zno hf hb (zth hlt (by simpa using h8))
        try refine xz2 (gd hlt) zae ?_
        (first|(refine zar rfl (Wk.of ?_);(try simp(etaStruct := .none)only[push_cast,zab,seval]);first|done|(simp[e, *];done)|(simp_all[e];done))|(refine zar rfl ?_;(try simp(etaStruct := .none)only[push_cast,zab,seval]);(try simp[e, *]);(try exact wkc)))
       ·have hkd0:zap (w.troops.getD k default).kind 1 2=true:=by simpa using h8
        have hkd:=within_iff.1 hkd0
        have lk:(List.take k (List.map zaw w.troops)).length=k:=by rw[List.length_take,List.length_map];omega
        have hkd2:(w.troops.getD k default).kind=1∨(w.troops.getD k default).kind=2:=by omega
        try refine xz2 (gd hlt) zae ?_
        refine gcP (fun hcc=>zay (w.troops.getD k default).id 1 (w.next-1)) ?_
        try refine xz2 (gd hlt) zae ?_
        refine gcP (fun hcc=>zay (w.troops.getD k default).owner 0 ((w.bases.length:Int)-1)) ?_
        try refine xz2 (gd hlt) zae ?_
        refine gcP (fun hcc=>zp7 w.f (w.troops.getD k default).c hf) ?_
        try refine xz2 (gd hlt) zae ?_
        refine gcP (fun hcc=>zhh (w.troops.getD k default).kind hkd2) ?_
        try refine xz2 (gd hlt) zae ?_
        refine gcP (fun hcc=>zay (w.troops.getD k default).life 1 (zbh (w.troops.getD k default).kind).life) ?_
        try refine xz2 (gd hlt) zae ?_
        refine gcP (fun hcc=>zay (w.troops.getD k default).load 0 (5*(2-(w.troops.getD k default).kind))) ?_
        try refine xz2 (gd hlt) zae ?_
        (try(refine⟨by kernel_rfl,?_⟩))
        try refine xz2 (gd hlt) zae ?_
        refine zas (fun j:Nat=>⟨[(190,I .i64 j),(189,I .i64 k),(188,.c (.sl 7 ((w.troops.map zaw).take k))),(133,I .i64 k),(132,I .i64 w.troops.length),(131,.c (.sl 7 (w.troops.map zaw))),(10,.ptr 1 0 0),(4,B (((zde (zhv w) w.bases.length&&zde (zi4 w) w.mines.length)&&(zde (zdj w) k&&z7v w (w.troops.getD k default)))&&zde (fun j=>decide ((w.troops.getD j default).id<(w.troops.getD k default).id) && !decide ((w.troops.getD j default).c=(w.troops.getD k default).c)) j)),(1,.ptr 0 0 0)],[(0,.blk 28 (zhq w)),(1,.blk 92 (ygo (w.troops.getD k default)))],2⟩) (fun j:Nat=>j≤k) (fun j:Nat=>k-j) (0) (Nat.zero_le _) (To.mk [0,1] rfl rfl (by decide) ?_ ?_) ?_
        ·simp(etaStruct := .none)only[push_cast,zab,seval]
        ·simp(etaStruct := .none)only[push_cast,zab,seval,zde,lk,z7v,Bool.and_true,←Bool.and_assoc]
        rintro j hj
        try refine xz2 (gd hlt) zae ?_
        refine cI (fun h9 => ?_) fun h9 => ?_
        ·have hltj:j<w.troops.length:=by omega
         have hltk:j<(w.troops.take k).length:=by rw[List.length_take];omega
         have et:(w.troops.map zaw).take k=(w.troops.take k).map zaw:=by rw[List.map_take]
         have eg:(w.troops.take k).getD j default=w.troops.getD j default:=by simp[List.getD_eq_getElem?_getD,List.getElem?_take,show j<k by omega]
         try refine xz8 (gd hlt) zae et (gd hltk) eg zae zm2 zbz ?_
         refine⟨j+1,by omega,by omega,To.mk [0,1] rfl rfl (by decide) ?_ ?_⟩
         ·(try(refine xz8 (gd hlt) zae et (gd hltk) eg zae zm2 zbz ?_;try exact xtI))
         ·(iterate 2((try simp(etaStruct := .none)only[push_cast,zab,seval,zde,←Bool.and_assoc]);(try(refine xsu ?_;try exact xtI))))
        ·obtain rfl:k=j:=by omega
         try refine xz2 (gd hlt) zae ?_
         refine⟨k+1,by omega,by omega,To.mk [0] rfl rfl (by decide) ?_ ?_⟩
         ·(try(refine xz2 (gd hlt) zae ?_;try exact xtI))
         ·(iterate 2((try simp(etaStruct := .none)only[push_cast,zab,seval,zde,zdj,z4h,hkd0,Bool.true_and,←Bool.and_assoc]);(try(refine xsu ?_;try exact xtI))))
      ·obtain rfl:k=w.troops.length:=by omega
       try refine xst ?_
       refine cI (fun h10 => ?_) fun h10 => ?_
       ·have e:zah w=4:=zno hf hb (by unfold ze7;simpa only[Bool.and_eq_false_iff]using h10)
        try refine xst ?_
        (first|(refine zar rfl (Wk.of ?_);(try simp(etaStruct := .none)only[push_cast,zab,seval]);first|done|(simp[e, *];done)|(simp_all[e];done))|(refine zar rfl ?_;(try simp(etaStruct := .none)only[push_cast,zab,seval]);(try simp[e, *]);(try exact wkc)))
       ·have e:zah w=0:=zlb hf hb hwf (by unfold ze7;simpa using h10)
        try refine xst ?_
        (first|(refine zar rfl (Wk.of ?_);(try simp(etaStruct := .none)only[push_cast,zab,seval]);first|done|(simp[e, *];done)|(simp_all[e];done))|(refine zar rfl ?_;(try simp(etaStruct := .none)only[push_cast,zab,seval]);(try simp[e, *]);(try exact wkc)))
theorem z3q (l:List Cel) (v:Cel) (hl:l.length≤9223372036854775807):Spec Tryz.prog 189 [.c (.sl 2 (l.map zaz)),zem v] [] (I .i64 (ze4 (fun x=>decide (v=x)) l)) []:=by
 refine spB Tryz.func189 19 [.tmp 4] Tryz.results189 ?_
 try refine xst ?_
 refine zas (fun k:Nat=>⟨[(8,I .i64 k),(7,I .i64 l.length),(3,.ptr 0 0 0),(0,.c (.sl 2 (l.map zaz)))],[(0,.blk 41 [I .i64 v.x,I .i64 v.y])],1⟩) (fun k:Nat=>k≤l.length∧∀j (hj:j<l.length),j<k→decide (v=l[j])=false) (fun k:Nat=>l.length-k) (0) (⟨Nat.zero_le _,fun j _ h=>by omega⟩) (To.mk [0] rfl rfl (by decide) ?_ ?_) ?_
 ·simp(etaStruct := .none)only[push_cast,zab,seval]
 ·simp(etaStruct := .none)only[push_cast,zab,seval]
 rintro k ⟨hk,hn⟩
 try refine xst ?_
 refine zal (fun h1 => ?_) (fun h1 => ?_)
 ·(try replace h1:=xhh h1)
  have hlt:k<l.length:=by omega
  try refine xz3 (gd hlt) zao zbz ?_
  (try(refine⟨by kernel_rfl,?_⟩))
  try refine xz3 (gd hlt) zao zbz ?_
  refine cI (fun h2 => ?_) fun h2 => ?_
  ·try refine xz3 (gd hlt) zao zbz ?_
   exact zbe rfl trivial (Wk.of (by rw[zdc (fun x=>decide (v=x)) l k hlt (by rw[←zad _ _ hlt];simpa using h2) hn];rfl))
  ·try refine xz3 (gd hlt) zao zbz ?_
   refine⟨k+1,⟨by omega,fun j hj hjk=>by
 rcases Nat.lt_or_ge j k with h|h
 ·simpa using hn j hj h
 ·obtain rfl:j=k:=by omega
  rw[←zad _ _ hj];simpa using h2⟩,by omega,To.mk [0] rfl rfl (by decide) ?_ ?_⟩
   ·(try(refine xz3 (gd hlt) zao zbz ?_;try exact xtI))
   ·(try(refine xz3 (gd hlt) zao zbz ?_;try exact xtI))
 ·(try replace h1:=xhh h1)
  try refine xst ?_
  exact zbe rfl trivial (Wk.of (by rw[zcs (fun x=>decide (v=x)) l (fun j hj=>hn j hj (by omega))];rfl))
theorem zs1 (l:List Cel) (v:Cel) (hl:l.length≤9223372036854775807):Spec Tryz.prog 169 [.c (.sl 2 (l.map zaz)),zem v] [] (B (l.any (fun x=>decide (v=x)))) []:=by
 refine spB Tryz.func169 9 [.tmp 4] Tryz.results169 ?_
 iterate 2(try simp(etaStruct := .none)only[push_cast,zab,seval,zhi];try refine xsu ?_)
 refine caP (z3q l v hl) ?_
 iterate 2(try simp(etaStruct := .none)only[push_cast,zab,seval,zhi];try refine xsu ?_)
 exact xrz rfl
theorem zlj (f:Fld) (c:Cel) (h:zbp f=0) (hl:f.p.length≤9223372036854775807):Spec Tryz.prog 168 [znh f,zem c] [] (B (zbw f c)) []:=by
 refine spB Tryz.func168 19 [.tmp 4] Tryz.results168 ?_
 try refine xst ?_
 refine caP (zzk f c hl) ?_
 try refine xst ?_
 exact zbe rfl trivial (Wk.of (congrArg B (by unfold atV zbw;rw[if_neg (by simp[h])];cases inF f c<;>simp)))
theorem zb1 (n a b:Int):Spec Tryz.prog 170 [I .i64 n,I .i64 a,I .i64 b] [] (B (zap n a b)) []:=by
 refine spB Tryz.func170 15 [.tmp 6] Tryz.results170 ?_
 try refine xst ?_
 exact zbe rfl trivial (Wk.of (congrArg B (by unfold zap;first|rfl|simp)))
def zgk (k:Int):Int:=if k=1∨k=2 then 0 else 1
theorem zh4 (k:Int):Spec Tryz.prog 129 [I .i64 k] [] (.tup [yjn (zbh k),I .i64 (zgk k)]) []:=by
 refine spB Tryz.func129 12 [.cell 2 120,.tmp 3] Tryz.results129 ?_
 try refine xst ?_
 refine cI (fun h1 => ?_) fun h1 => ?_
 ·try refine xst ?_
  (first|(refine zar rfl (Wk.of ?_);(try simp(etaStruct := .none)only[push_cast,zab,seval]);first|done|(simp[zbh,zgk, *];done)|(simp_all[zbh,zgk];done))|(refine zar rfl ?_;(try simp(etaStruct := .none)only[push_cast,zab,seval]);(try simp[zbh,zgk, *]);(try exact wkc)))
 ·try refine xst ?_
  refine cI (fun h2 => ?_) fun h2 => ?_
  ·try refine xst ?_
   (first|(refine zar rfl (Wk.of ?_);(try simp(etaStruct := .none)only[push_cast,zab,seval]);first|done|(simp[zbh,zgk, *];done)|(simp_all[zbh,zgk];done))|(refine zar rfl ?_;(try simp(etaStruct := .none)only[push_cast,zab,seval]);(try simp[zbh,zgk, *]);(try exact wkc)))
  ·try refine xst ?_
   (first|(refine zar rfl (Wk.of ?_);(try simp(etaStruct := .none)only[push_cast,zab,seval]);first|done|(simp[zbh,zgk, *];done)|(simp_all[zbh,zgk];done))|(refine zar rfl ?_;(try simp(etaStruct := .none)only[push_cast,zab,seval]);(try simp[zbh,zgk, *]);(try exact wkc)))
theorem z7h (w:Wld) (i:Nat) (hi:i<w.bases.length):((w.bases.take i).any fun x=>decide (w.bases.getD i default=x)) = !zde (fun j => !decide (w.bases.getD j default=w.bases.getD i default)) i:=by
 rw[Bool.eq_iff_iff,Bool.not_eq_true',←Bool.not_eq_true,zbo,List.any_eq_true]
 constructor
 ·rintro⟨x,hx,h⟩ hh
  obtain⟨j,hj,rfl⟩:=List.getElem_of_mem hx
  rw[List.length_take]at hj
  have:=hh j (by omega)
  rw[List.getElem_take]at h
  rw[zad _ _ (by omega)]at this
  simp only[decide_eq_true_eq]at h
  simp only[Bool.not_eq_true',decide_eq_false_iff_not]at this
  exact this h.symm
 ·intro hh
  apply Classical.byContradiction
  intro hn
  apply hh
  intro j hj
  simp only[Bool.not_eq_true',decide_eq_false_iff_not]
  intro he
  apply hn
  refine⟨w.bases.getD j default,?_,decide_eq_true he.symm⟩
  rw[zad _ _ (by omega)]
  exact List.mem_take_iff_getElem.2 ⟨j,by omega,rfl⟩
def zej (w:Wld):Bool:=decide (w.stocks.length=w.bases.length)&&zde (zhv w) w.bases.length
def zi3 (w:Wld):Bool:=decide (w.mines.length=w.f.p.length)&&zde (zi4 w) w.mines.length
def zdo (w:Wld):Bool:=zap w.next 1 1000000&&zap w.now 0 1000000&&zde (zdj w) w.troops.length
theorem ptm (w:Wld):(zej w&&zi3 w&&zdo w)=(zge w&&ze7 w):=by
 unfold zej zi3 zdo zge ze7
 cases decide (w.stocks.length=w.bases.length)<;>cases decide (w.mines.length=w.f.p.length)<;>cases zap w.next 1 1000000<;>cases zap w.now 0 1000000<;>simp
theorem zk8 {p:Nat→Bool} {n k:Nat} (h:k<n) (hp:p k=false):zde p n=false:=by
 rw[←Bool.not_eq_true,zbo];intro hh
 have:=hh k h
 rw[hp]at this;simp at this
theorem zx0 (w:Wld) (hl:zdf w) (hf:zbp w.f=0):Spec Tryz.prog 131 [zbk w] [] (B (zej w)) []:=by
 obtain⟨l1,l2,l3,l4,l5⟩:=hl
 refine spB Tryz.func131 43 [.tmp 2] Tryz.results131 ?_
 try refine xst ?_
 refine cI (fun h1 => ?_) fun h1 => ?_
 ·have e:zej w=false:=by unfold zej;rw[decide_eq_false (by omega)];rfl
  try refine xst ?_
  (first|(refine zar rfl (Wk.of ?_);(try simp(etaStruct := .none)only[push_cast,zab,seval]);first|done|(simp[e, *];done)|(simp_all[e];done))|(refine zar rfl ?_;(try simp(etaStruct := .none)only[push_cast,zab,seval]);(try simp[e, *]);(try exact wkc)))
 ·have hls:w.stocks.length=w.bases.length:=by omega
  try refine xst ?_
  refine zas (fun k:Nat=>⟨[(15,I .i64 k),(14,I .i64 w.bases.length),(13,.c (.sl 2 (w.bases.map zaz))),(1,.ptr 0 0 0)],[(0,.blk 28 (zhq w))],1⟩) (fun k:Nat=>k≤w.bases.length∧zde (zhv w) k=true) (fun k:Nat=>w.bases.length-k) (0) (⟨Nat.zero_le _,rfl⟩) (To.mk [0] rfl rfl (by decide) ?_ ?_) ?_
  ·simp(etaStruct := .none)only[push_cast,zab,seval]
  ·simp(etaStruct := .none)only[push_cast,zab,seval]
  rintro k ⟨hk,hn⟩
  try refine xst ?_
  refine cI (fun h2 => ?_) fun h2 => ?_
  ·have hlt:k<w.bases.length:=by omega
   have hlt2:k<w.stocks.length:=by omega
   have et:(w.bases.map zaz).take k=(w.bases.take k).map zaz:=by rw[List.map_take]
   have ba:=z7h w k hlt
   try refine xz5 (gd hlt) zao (gd hlt2) zak et ?_
   refine caP (zlj w.f (w.bases.getD k default) hf l1) ?_
   try refine xz5 (gd hlt) zao (gd hlt2) zak et ?_
   refine gcP (fun hcc=>zs1 (w.bases.take k) (w.bases.getD k default) (by rw[List.length_take];omega)) ?_
   try refine xz5 (gd hlt) zao (gd hlt2) zak et ?_
   refine gcP (fun hcc=>zb1 (w.stocks.getD k default) 0 1000000) ?_
   try refine xz5 (gd hlt) zao (gd hlt2) zak et ?_
   (try(refine⟨by kernel_rfl,?_⟩))
   try refine xz5 (gd hlt) zao (gd hlt2) zak et ?_
   refine cI (fun h3 => ?_) fun h3 => ?_
   ·have e0:zhv w k=false:=by
     unfold zhv
     rw[ba]at h3
     rcases h3 with (h|h)|h
     ·rw[h];rfl
     ·have h':zde (fun j => !decide (w.bases.getD j default=w.bases.getD k default)) k=false:=by simpa using h
      rw[h'];simp
     ·rw[h];simp
    have e:zej w=false:=by unfold zej;rw[zk8 hlt e0];simp
    try refine xz5 (gd hlt) zao (gd hlt2) zak et ?_
    (first|(refine zar rfl (Wk.of ?_);(try simp(etaStruct := .none)only[push_cast,zab,seval]);first|done|(simp[e, *];done)|(simp_all[e];done))|(refine zar rfl ?_;(try simp(etaStruct := .none)only[push_cast,zab,seval]);(try simp[e, *]);(try exact wkc)))
   ·have e0:zhv w k=true:=by
     unfold zhv
     rw[ba]at h3
     rw[h3.1.1,h3.2]
     simpa using h3.1.2
    try refine xz5 (gd hlt) zao (gd hlt2) zak et ?_
    refine⟨k+1,⟨by omega,by rw[zde,hn,e0];rfl⟩,by omega,To.mk [0] rfl rfl (by decide) ?_ ?_⟩
    ·(try(refine xz5 (gd hlt) zao (gd hlt2) zak et ?_;try exact xtI))
    ·(try(refine xz5 (gd hlt) zao (gd hlt2) zak et ?_;try exact xtI))
  ·obtain rfl:k=w.bases.length:=by omega
   have e:zej w=true:=by unfold zej;rw[decide_eq_true hls,hn];rfl
   try refine xst ?_
   (first|(refine zar rfl (Wk.of ?_);(try simp(etaStruct := .none)only[push_cast,zab,seval]);first|done|(simp[e, *];done)|(simp_all[e];done))|(refine zar rfl ?_;(try simp(etaStruct := .none)only[push_cast,zab,seval]);(try simp[e, *]);(try exact wkc)))
theorem z4j (w:Wld) (hl:zdf w):Spec Tryz.prog 132 [zbk w] [] (B (zi3 w)) []:=by
 obtain⟨l1,l2,l3,l4,l5⟩:=hl
 refine spB Tryz.func132 38 [.tmp 2] Tryz.results132 ?_
 try refine xst ?_
 refine cI (fun h1 => ?_) fun h1 => ?_
 ·have e:zi3 w=false:=by unfold zi3;rw[decide_eq_false (by omega)];rfl
  try refine xst ?_
  (first|(refine zar rfl (Wk.of ?_);(try simp(etaStruct := .none)only[push_cast,zab,seval]);first|done|(simp[e, *];done)|(simp_all[e];done))|(refine zar rfl ?_;(try simp(etaStruct := .none)only[push_cast,zab,seval]);(try simp[e, *]);(try exact wkc)))
 ·have hls:w.mines.length=w.f.p.length:=by omega
  try refine xst ?_
  refine zas (fun k:Nat=>⟨[(16,I .i64 k),(15,I .i64 w.mines.length),(14,.c (.sl 1 (w.mines.map zac))),(1,.ptr 0 0 0)],[(0,.blk 28 (zhq w))],1⟩) (fun k:Nat=>k≤w.mines.length∧zde (zi4 w) k=true) (fun k:Nat=>w.mines.length-k) (0) (⟨Nat.zero_le _,rfl⟩) (To.mk [0] rfl rfl (by decide) ?_ ?_) ?_
  ·simp(etaStruct := .none)only[push_cast,zab,seval]
  ·simp(etaStruct := .none)only[push_cast,zab,seval]
  rintro k ⟨hk,hn⟩
  try refine xst ?_
  refine cI (fun h2 => ?_) fun h2 => ?_
  ·have hlt:k<w.mines.length:=by omega
   have hlt2:k<w.f.p.length:=by omega
   try refine xz3 (gd hlt) (gd hlt2) zak ?_
   refine caP (zb1 (w.mines.getD k default) 0 1000000) ?_
   try refine xz3 (gd hlt) (gd hlt2) zak ?_
   refine cI (fun h3 => ?_) fun h3 => ?_
   ·have e0:zi4 w k=false:=by
     unfold zi4
     rcases h3 with h|⟨h,h'⟩
     ·rw[h];rfl
     ·rw[decide_eq_false (by omega),decide_eq_false (by omega)];simp
    have e:zi3 w=false:=by unfold zi3;rw[zk8 hlt e0];simp
    try refine xz3 (gd hlt) (gd hlt2) zak ?_
    (first|(refine zar rfl (Wk.of ?_);(try simp(etaStruct := .none)only[push_cast,zab,seval]);first|done|(simp[e, *];done)|(simp_all[e];done))|(refine zar rfl ?_;(try simp(etaStruct := .none)only[push_cast,zab,seval]);(try simp[e, *]);(try exact wkc)))
   ·have e0:zi4 w k=true:=by
     unfold zi4
     rw[h3.1]
     have:=within_iff.1 h3.1
     simp only[Bool.true_and,Bool.or_eq_true,decide_eq_true_eq]
     omega
    try refine xz3 (gd hlt) (gd hlt2) zak ?_
    refine⟨k+1,⟨by omega,by rw[zde,hn,e0];rfl⟩,by omega,To.mk [0] rfl rfl (by decide) ?_ ?_⟩
    ·(try(refine xz3 (gd hlt) (gd hlt2) zak ?_;try exact xtI))
    ·(try(refine xz3 (gd hlt) (gd hlt2) zak ?_;try exact xtI))
  ·obtain rfl:k=w.mines.length:=by omega
   have e:zi3 w=true:=by unfold zi3;rw[decide_eq_true hls,hn];rfl
   try refine xst ?_
   (first|(refine zar rfl (Wk.of ?_);(try simp(etaStruct := .none)only[push_cast,zab,seval]);first|done|(simp[e, *];done)|(simp_all[e];done))|(refine zar rfl ?_;(try simp(etaStruct := .none)only[push_cast,zab,seval]);(try simp[e, *]);(try exact wkc)))
end Go.Proofs.YtbapdgmcndgieaaGreat
