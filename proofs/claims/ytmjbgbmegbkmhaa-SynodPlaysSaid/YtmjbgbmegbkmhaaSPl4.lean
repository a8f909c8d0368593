/- Lemmas for the proof of synodPlays.proved. -/
import Derived.Test.YtmjbgbmegbkmhaaSPl3
import Derived.Test.YtmjbgbmegbkmhaaProg
import Derived.KernelRfl
namespace Go.Proofs.Ytmjbgbmegbkmhaa
set_option linter.all false
theorem mix:Try.prog.follows .mixedOrders=true:=by kernel_rfl
theorem spB {P : Program} {f : FuncId} {fn : Func} {c : Code} {args : List AV} {hs hs' : List Chunk} {r : AV} (hf : P.funcs[f]? = some fn) (nt : Nat) (rs : List ResultVar) (hrs : fn.results = rs.toArray) (h : awp P nt hs.length c (zrc P hs.length rs r hs') ⟨zfx 0 args, hsT 0 hs, hs.length⟩) (hmix : P.follows .mixedOrders = true := by exact mix) (hb : fn.body = some c := by rfl) (hn : (fn.name == "runtime.NumGoroutine") = false := by rfl) (hnt : nt = args.length + (fn.ntmps - args.length) := by rfl) (hle : hs.length ≤ hs'.length := by exact Nat.le_of_ble_eq_true rfl) : Spec P f args hs r hs' := zol hf hb hn hmix nt hnt rs hrs hle h
theorem it3:zkz Try.prog 3=true:=by kernel_rfl
theorem ty3:ty Try.prog 3=some ⟨.int .i64,false,1,8,[.int .i64 0]⟩:=by kernel_rfl
theorem ty4:ty Try.prog 4=some ⟨.bool,false,1,1,[.bool false]⟩:=by kernel_rfl
theorem ty5:ty Try.prog 5=some ⟨.int .u8,false,1,1,[.int .u8 0]⟩:=by kernel_rfl
theorem ty9:ty Try.prog 9=some ⟨.str,false,1,16,[.string ByteArray.empty]⟩:=by kernel_rfl
theorem zsn:ty Try.prog 22=some ⟨.sl 34,false,1,24,[.slice none 0 0]⟩:=by kernel_rfl
theorem zsm:ty Try.prog 23=some ⟨.sl 47,false,1,24,[.slice none 0 0]⟩:=by kernel_rfl
theorem zsl:ty Try.prog 24=some ⟨.sl 42,false,1,24,[.slice none 0 0]⟩:=by kernel_rfl
theorem zsk:ty Try.prog 26=some ⟨.st [some (0,1,false),some (1,1,false)],true,2,48,[.slice none 0 0,.slice none 0 0]⟩:=by kernel_rfl
theorem zst:zkz Try.prog 27=true:=by kernel_rfl
theorem zsj:ty Try.prog 27=some ⟨.int .i64,false,1,8,[.int .i64 0]⟩:=by kernel_rfl
theorem zsi:ty Try.prog 34=some ⟨.st [some (0,1,false),some (1,1,false),some (2,1,false),some (3,1,false)],true,4,32,[.int .i64 0,.int .i64 0,.int .i64 0,.int .i64 0]⟩:=by kernel_rfl
theorem zsh:ty Try.prog 35=some ⟨.other,false,1,8,[.nilFunc]⟩:=by kernel_rfl
theorem zsg:ty Try.prog 37=some ⟨.st [some (0,2,true)],true,2,48,[.slice none 0 0,.slice none 0 0]⟩:=by kernel_rfl
theorem zsf:ty Try.prog 40=some ⟨.int .u32,false,1,4,[.int .u32 0]⟩:=by kernel_rfl
theorem zse:ty Try.prog 42=some ⟨.st [some (0,1,false),some (1,1,false),some (2,1,false),some (3,1,false),some (4,1,false),some (5,1,false)],true,6,64,[.int .i64 0,.int .u32 0,.slice none 0 0,.bool false,.int .i64 0,.int .u32 0]⟩:=by kernel_rfl
theorem zsd:ty Try.prog 43=some ⟨.arr 51 42,true,306,3264,[.int .i64 0,.int .u32 0,.slice none 0 0,.bool false,.int .i64 0,.int .u32 0,.int .i64 0,.int .u32 0,.slice none 0 0,.bool false,.int .i64 0,.int .u32 0,.int .i64 0,.int .u32 0,.slice none 0 0,.bool false,.int .i64 0,.int .u32 0,.int .i64 0,.int .u32 0,.slice none 0 0,.bool false,.int .i64 0,.int .u32 0,.int .i64 0,.int .u32 0,.slice none 0 0,.bool false,.int .i64 0,.int .u32 0,.int .i64 0,.int .u32 0,.slice none 0 0,.bool false,.int .i64 0,.int .u32 0,.int .i64 0,.int .u32 0,.slice none 0 0,.bool false,.int .i64 0,.int .u32 0,.int .i64 0,.int .u32 0,.slice none 0 0,.bool false,.int .i64 0,.int .u32 0,.int .i64 0,.int .u32 0,.slice none 0 0,.bool false,.int .i64 0,.int .u32 0,.int .i64 0,.int .u32 0,.slice none 0 0,.bool false,.int .i64 0,.int .u32 0,.int .i64 0,.int .u32 0,.slice none 0 0,.bool false,.int .i64 0,.int .u32 0,.int .i64 0,.int .u32 0,.slice none 0 0,.bool false,.int .i64 0,.int .u32 0,.int .i64 0,.int .u32 0,.slice none 0 0,.bool false,.int .i64 0,.int .u32 0,.int .i64 0,.int .u32 0,.slice none 0 0,.bool false,.int .i64 0,.int .u32 0,.int .i64 0,.int .u32 0,.slice none 0 0,.bool false,.int .i64 0,.int .u32 0,.int .i64 0,.int .u32 0,.slice none 0 0,.bool false,.int .i64 0,.int .u32 0,.int .i64 0,.int .u32 0,.slice none 0 0,.bool false,.int .i64 0,.int .u32 0,.int .i64 0,.int .u32 0,.slice none 0 0,.bool false,.int .i64 0,.int .u32 0,.int .i64 0,.int .u32 0,.slice none 0 0,.bool false,.int .i64 0,.int .u32 0,.int .i64 0,.int .u32 0,.slice none 0 0,.bool false,.int .i64 0,.int .u32 0,.int .i64 0,.int .u32 0,.slice none 0 0,.bool false,.int .i64 0,.int .u32 0,.int .i64 0,.int .u32 0,.slice none 0 0,.bool false,.int .i64 0,.int .u32 0,.int .i64 0,.int .u32 0,.slice none 0 0,.bool false,.int .i64 0,.int .u32 0,.int .i64 0,.int .u32 0,.slice none 0 0,.bool false,.int .i64 0,.int .u32 0,.int .i64 0,.int .u32 0,.slice none 0 0,.bool false,.int .i64 0,.int .u32 0,.int .i64 0,.int .u32 0,.slice none 0 0,.bool false,.int .i64 0,.int .u32 0,.int .i64 0,.int .u32 0,.slice none 0 0,.bool false,.int .i64 0,.int .u32 0,.int .i64 0,.int .u32 0,.slice none 0 0,.bool false,.int .i64 0,.int .u32 0,.int .i64 0,.int .u32 0,.slice none 0 0,.bool false,.int .i64 0,.int .u32 0,.int .i64 0,.int .u32 0,.slice none 0 0,.bool false,.int .i64 0,.int .u32 0,.int .i64 0,.int .u32 0,.slice none 0 0,.bool false,.int .i64 0,.int .u32 0,.int .i64 0,.int .u32 0,.slice none 0 0,.bool false,.int .i64 0,.int .u32 0,.int .i64 0,.int .u32 0,.slice none 0 0,.bool false,.int .i64 0,.int .u32 0,.int .i64 0,.int .u32 0,.slice none 0 0,.bool false,.int .i64 0,.int .u32 0,.int .i64 0,.int .u32 0,.slice none 0 0,.bool false,.int .i64 0,.int .u32 0,.int .i64 0,.int .u32 0,.slice none 0 0,.bool false,.int .i64 0,.int .u32 0,.int .i64 0,.int .u32 0,.slice none 0 0,.bool false,.int .i64 0,.int .u32 0,.int .i64 0,.int .u32 0,.slice none 0 0,.bool false,.int .i64 0,.int .u32 0,.int .i64 0,.int .u32 0,.slice none 0 0,.bool false,.int .i64 0,.int .u32 0,.int .i64 0,.int .u32 0,.slice none 0 0,.bool false,.int .i64 0,.int .u32 0,.int .i64 0,.int .u32 0,.slice none 0 0,.bool false,.int .i64 0,.int .u32 0,.int .i64 0,.int .u32 0,.slice none 0 0,.bool false,.int .i64 0,.int .u32 0,.int .i64 0,.int .u32 0,.slice none 0 0,.bool false,.int .i64 0,.int .u32 0,.int .i64 0,.int .u32 0,.slice none 0 0,.bool false,.int .i64 0,.int .u32 0,.int .i64 0,.int .u32 0,.slice none 0 0,.bool false,.int .i64 0,.int .u32 0,.int .i64 0,.int .u32 0,.slice none 0 0,.bool false,.int .i64 0,.int .u32 0,.int .i64 0,.int .u32 0,.slice none 0 0,.bool false,.int .i64 0,.int .u32 0,.int .i64 0,.int .u32 0,.slice none 0 0,.bool false,.int .i64 0,.int .u32 0,.int .i64 0,.int .u32 0,.slice none 0 0,.bool false,.int .i64 0,.int .u32 0,.int .i64 0,.int .u32 0,.slice none 0 0,.bool false,.int .i64 0,.int .u32 0,.int .i64 0,.int .u32 0,.slice none 0 0,.bool false,.int .i64 0,.int .u32 0]⟩:=by kernel_rfl
theorem zsc:ty Try.prog 44=some ⟨.arr 51 4,true,51,51,[.bool false,.bool false,.bool false,.bool false,.bool false,.bool false,.bool false,.bool false,.bool false,.bool false,.bool false,.bool false,.bool false,.bool false,.bool false,.bool false,.bool false,.bool false,.bool false,.bool false,.bool false,.bool false,.bool false,.bool false,.bool false,.bool false,.bool false,.bool false,.bool false,.bool false,.bool false,.bool false,.bool false,.bool false,.bool false,.bool false,.bool false,.bool false,.bool false,.bool false,.bool false,.bool false,.bool false,.bool false,.bool false,.bool false,.bool false,.bool false,.bool false,.bool false,.bool false]⟩:=by kernel_rfl
theorem zsb:ty Try.prog 47=some ⟨.st [some (0,1,false),some (1,1,false),some (2,1,false)],true,3,24,[.int .i64 0,.int .i64 0,.int .i64 0]⟩:=by kernel_rfl
theorem zsa:ty Try.prog 55=some ⟨.other,false,1,8,[.nilFunc]⟩:=by kernel_rfl
theorem zr9:ty Try.prog 57=some ⟨.ptr 37,false,1,8,[.pointer none]⟩:=by kernel_rfl
theorem zr8:ty Try.prog 64=some ⟨.other,false,1,8,[.nilFunc]⟩:=by kernel_rfl
theorem zr7:ty Try.prog 68=some ⟨.int .u64,false,1,8,[.int .u64 0]⟩:=by kernel_rfl
theorem zsv:zbf Try.prog 9 47=some [0,0,0]:=by kernel_rfl
theorem zsx:zrs Try.prog 47=true:=by kernel_rfl
attribute [push_cast] it3 ty3 ty4 ty5 ty9 zsn zsm zsl zsk zst zsj zsi zsh zsg zsf zse zsd zsc zsb zsa zr9 zr8 zr7 zsv zsx
end Go.Proofs.Ytmjbgbmegbkmhaa
namespace Go.Proofs.Ytmjbgbmegbkmhaa
set_option linter.all false
open Go.RowKit
abbrev zr4 (n:Int):Prop := -9223372036854775808≤n∧n≤9223372036854775807
abbrev pI (n:Int):PV := .v (.int .i64 n)
abbrev pB (b:Bool):PV := .v (.bool b)
def zsu (n:Int):List PV := [pI n]
def zr5 (n:Nat):List PV := [.v (.int .u64 n)]
def zrq (b:Bool):List PV := [pB b]
def zso (s:ByteArray):List PV := [.v (.string s)]
structure Cel where
 x:Int
 y:Int
 deriving DecidableEq, Inhabited
structure Fld where
 w:Int
 h:Int
 p:List Int
 deriving DecidableEq, Inhabited
structure Trp where
 id:Int
 owner:Int
 kind:Int
 c:Cel
 life:Int
 load:Int
 deriving DecidableEq, Inhabited
structure Wld where
 f:Fld
 bases:List Cel
 stocks:List Int
 mines:List Int
 troops:List Trp
 next:Int
 now:Int
 deriving DecidableEq, Inhabited
structure Ord where
 by_:Int
 kind:Int
 who:Int
 c:Cel
 what:Int
 deriving DecidableEq, Inhabited
theorem zfo {α : Type} [Inhabited α] (f : α → List PV) (l:List α) (i:Nat) (h:i<l.length):(l.map f).getD i []=f (l.getD i default):=by
 simp[h]
theorem gd {α : Type} [Inhabited α] {l:List α} {k:Nat} (h:k<l.length):∀(f : α → List PV),(l.map f).getD k []=f (l.getD k default):=fun f=>zfo f l k h
theorem zcj {α : Type} [Inhabited α] (l:List α) (i:Nat) (h:i<l.length):l.getD i default=l[i]:=by simp[h]
theorem zd2 {α : Type} [Inhabited α] (l:List α) (k:Nat) (h:k<l.length):l.take (k+1)=l.take k ++ [l.getD k default]:=by rw[List.take_succ_eq_append_getElem h,zcj _ _ h]
theorem zdw {α : Type} [Inhabited α] (l:List α) (i:Nat) (h:i<l.length):l.getD i default∈l:=by rw[zcj _ _ h];exact List.getElem_mem h
theorem ze8 (n:Int) (h1:0≤n) (h2:n<4294967296):IntKind.u32.wrap n=n:=by
 unfold IntKind.wrap
 simp only[IntKind.bits,IntKind.signed,Bool.false_and,Bool.false_eq_true,if_false]
 show n % (2 ^ 32:Int)=n
 omega
theorem zrz (a b:Nat) (ha:a<4294967296) (hb:b<4294967296):bits .or .u32 (a:Int) (b:Int)=((a ||| b:Nat):Int):=by
 show IntKind.u32.wrap ((BitVec.ofInt 32 (a:Int) ||| BitVec.ofInt 32 (b:Int)).toNat:Nat)=_
 rw[BitVec.toNat_or,BitVec.ofInt_natCast,BitVec.ofInt_natCast,BitVec.toNat_ofNat,BitVec.toNat_ofNat,Nat.mod_eq_of_lt (show a<2 ^ 32 by omega),Nat.mod_eq_of_lt (show b<2 ^ 32 by omega)]
 have:a ||| b<2 ^ 32:=Nat.or_lt_two_pow (by omega) (by omega)
 exact ze8 _ (by omega) (by omega)
theorem zm3 (m k B:Nat) (hk:k≤B):(m:Int).fdiv (2 ^ min k B)=((m/2 ^ k:Nat):Int):=by
 rw[Nat.min_eq_left hk,Int.fdiv_eq_ediv_of_nonneg _ (Int.le_of_lt (Int.pow_pos (by decide)))]
 simp
theorem znk (k:Nat) (hk:k<32):IntKind.u32.wrap (1*2 ^ min k IntKind.u32.bits)=((2 ^ k:Nat):Int):=by
 obtain⟨h1,h2⟩:=zmc k hk
 rw[show IntKind.u32.bits=32 from rfl,Nat.min_eq_left (by omega),Int.one_mul]
 have:((2:Int) ^ k)=((2 ^ k:Nat):Int):=by simp
 rw[this,ze8 _ (by omega) (by omega)]
end Go.Proofs.Ytmjbgbmegbkmhaa
namespace Go.Proofs.Ytmjbgbmegbkmhaa
set_option linter.all false
open Go.RowKit
set_option maxRecDepth 100000
set_option maxHeartbeats 1000000
def vwP (v:Vw):List PV := [pI v.p,pI v.b,pI v.v]
theorem za2 (v:Vw):vwP v = [pI v.p,pI v.b,pI v.v]:=rfl
abbrev vwA (v:Vw):AV := .agg [I .i64 v.p,I .i64 v.b,I .i64 v.v]
def zdo (x:Stp):List PV := [pI x.kind,pI x.who,pI x.ballot,pI x.value]
theorem zbw (x:Stp):zdo x = [pI x.kind,pI x.who,pI x.ballot,pI x.value]:=rfl
abbrev zq6 (x:Stp):AV := .agg [I .i64 x.kind,I .i64 x.who,I .i64 x.ballot,I .i64 x.value]
def rnU (k:Nat) (r:Rn):List PV := [pI k,.v (.int .u32 r.prom),.undef,pB r.asked,pI r.value,.v (.int .u32 r.acc)]
abbrev zjn (c:Cn):Chunk := .row 47 3 (c.vows.map vwP)
abbrev zci (r:Rn):List (List PV):=r.heard.map vwP
abbrev zjj (t:Nat→Bool) (f:Nat→Rn) (op:Option (Nat × Nat)):Chunk := .nst 42 6 2 47 3 ((zaq t).map fun k=>rnU k (f k)) ((zaq t).map fun k=>zci (f k)) op
abbrev zjy (a b:AV):Chunk := .blk 37 [a,b]
theorem zkb (k n:Int) (p1 p2 p3 p4 p5:PV) (hk:0≤k∧k≤100) (hn:0≤n∧n≤100):Spec Try.prog 26 [.agg [I .i64 k,.c p1,.c p2,.c p3,.c p4,.c p5],I .i64 n] [] (I .i64 (k-n)) []:=by
 refine spB Try.func26 9 [.tmp 4] Try.results26 ?_
 try refine xst ?_
 exact xrz rfl
theorem znv (i j:Nat) (h:i+j≤1000):IntKind.i64.wrap ((IntKind.u64.wrap ((i:Int)+j)).fdiv (2 ^ min 1 IntKind.u64.bits))=(((i+j)/2:Nat):Int):=by
 have e:IntKind.u64.wrap ((i:Int)+j)=((i+j:Nat):Int):=by rw[IntKind.wrap_u64];omega
 rw[e,zm3 (i+j) 1 _ (by decide),IntKind.wrap_i64];omega
theorem zqt (idx:List Nat) (rows:List (List PV)) (hr:rows.length=idx.length) (hrow:∀j,j<idx.length→∃p1 p2 p3 p4 p5,rows.getD j [] = [pI (idx.getD j default:Nat),p1,p2,p3,p4,p5]) (b p:Nat) (hb:b≤50) (h51:idx.length≤51) (hle:∀j,j<idx.length→idx.getD j default≤50)
 (lo:∀j,j<p→idx.getD j default<b) (hi:∀j,p≤j→j<idx.length→b≤idx.getD j default) (hp:p<idx.length) :
 Spec Try.prog 25 [.own 0,I .i64 b,.clo (.func 26) [] []] [.row 42 6 rows] (.tup [I .i64 p,B (decide (idx.getD p default=b))]) [.row 42 6 rows]:=by
 refine spB Try.func25 49 [.tmp 6,.tmp 7] Try.results25 ?_
 try refine xz1 hr ?_
 refine zdl (fun x:Nat × Nat=>⟨[(10,I .i64 x.2),(9,I .i64 x.1),(8,I .i64 idx.length),(2,.clo (.func 26) [] []),(1,I .i64 b),(0,.own 0)],[(0,.row 42 6 rows)],1⟩) (fun x:Nat × Nat=>x.1≤p∧p≤x.2∧x.2≤idx.length) (fun x:Nat × Nat=>x.2-x.1) ((0,idx.length)) (⟨Nat.zero_le _,Nat.le_of_lt hp,Nat.le_refl _⟩) (To.mk [0] rfl rfl (by decide) ?_ ?_) ?_
 ·simp(etaStruct := .none)only[push_cast,zac,seval]
 ·simp(etaStruct := .none)only[push_cast,zac,seval]
 rintro⟨i,j⟩ ⟨q1,q2,q3⟩
 simp only at q1 q2 q3
 try refine xz1 hr ?_
 refine cI (fun h1 => ?_) fun h1 => ?_
 ·have hu:=znv i j (by omega)
  obtain⟨m,hm⟩:∃m,m=(i+j)/2:=⟨_,rfl⟩
  have hml:m<idx.length:=by omega
  obtain⟨p1,p2,p3,p4,p5,hg⟩:=hrow m hml
  have hmr:m<rows.length:=by omega
  have h50:=hle m hml
  try refine xz4 hr hu hm.symm hg ?_
  refine caP (zkb (idx.getD m default:Nat) b p1 p2 p3 p4 p5 (by omega) (by omega)) ?_
  try refine xz4 hr hu hm.symm hg ?_
  refine cI (fun h2 => ?_) fun h2 => ?_
  ·have hpm:m<p:=by
    rcases Nat.lt_or_ge m p with h|h
    ·exact h
    ·have:=hi m h hml;omega
   try refine xz4 hr hu hm.symm hg ?_
   refine⟨(m+1,j),⟨by simp only;omega,q2,q3⟩,by simp only;omega,To.mk [0] rfl rfl (by decide) ?_ ?_⟩
   ·(try(refine xz4 hr hu hm.symm hg ?_;try exact xtI))
   ·(try(refine xz4 hr hu hm.symm hg ?_;try exact xtI))
  ·have hpm:p≤m:=by
    rcases Nat.lt_or_ge m p with h|h
    ·have:=lo m h;omega
    ·exact h
   try refine xz4 hr hu hm.symm hg ?_
   refine⟨(i,m),⟨q1,by simp only;omega,by simp only;omega⟩,by simp only;omega,To.mk [0] rfl rfl (by decide) ?_ ?_⟩
   ·(try(refine xz4 hr hu hm.symm hg ?_;try exact xtI))
   ·(try(refine xz4 hr hu hm.symm hg ?_;try exact xtI))
 ·obtain rfl:i=p:=by omega
  obtain⟨p1,p2,p3,p4,p5,hg⟩:=hrow i hp
  have hmr:i<rows.length:=by omega
  have h50:=hle i hp
  try refine xz2 hr hg ?_
  refine gcP (fun hcc=>zkb (idx.getD i default:Nat) b p1 p2 p3 p4 p5 (by omega) (by omega)) ?_
  try refine xz2 hr hg ?_
  have hd:(decide ((i:Int)<idx.length)&&decide (((idx.getD i default:Nat):Int)-(b:Int)=0))=decide (idx.getD i default=b):=by
   rw[decide_eq_true (by omega),Bool.true_and,decide_eq_decide];omega
  refine zj9 [0] rfl rfl (by decide) ⟨?_,trivial⟩ trivial ?_<;>simp(etaStruct := .none)only[push_cast,zac,seval]
  exact Wk.of (by rw[hd])
theorem zqu (idx:List Nat) (rows:List (List PV)) (hr:rows.length=idx.length) (hrow:∀j,j<idx.length→∃p1 p2 p3 p4 p5,rows.getD j [] = [pI (idx.getD j default:Nat),p1,p2,p3,p4,p5]) (b p:Nat) (hb:b≤50) (h51:idx.length≤51) (hle:∀j,j<idx.length→idx.getD j default≤50)
 (lo:∀j,j<p→idx.getD j default<b) (hi:∀j,p≤j→j<idx.length→b≤idx.getD j default) (hp:p=idx.length) :
 Spec Try.prog 25 [.own 0,I .i64 b,.clo (.func 26) [] []] [.row 42 6 rows] (.tup [I .i64 p,B false]) [.row 42 6 rows]:=by
 refine spB Try.func25 49 [.tmp 6,.tmp 7] Try.results25 ?_
 try refine xz1 hr ?_
 refine zdl (fun x:Nat × Nat=>⟨[(10,I .i64 x.2),(9,I .i64 x.1),(8,I .i64 idx.length),(2,.clo (.func 26) [] []),(1,I .i64 b),(0,.own 0)],[(0,.row 42 6 rows)],1⟩) (fun x:Nat × Nat=>x.1≤p∧p≤x.2∧x.2≤idx.length) (fun x:Nat × Nat=>x.2-x.1) ((0,idx.length)) (⟨Nat.zero_le _,Nat.le_of_eq hp,Nat.le_refl _⟩) (To.mk [0] rfl rfl (by decide) ?_ ?_) ?_
 ·simp(etaStruct := .none)only[push_cast,zac,seval]
 ·simp(etaStruct := .none)only[push_cast,zac,seval]
 rintro⟨i,j⟩ ⟨q1,q2,q3⟩
 simp only at q1 q2 q3
 try refine xz1 hr ?_
 refine cI (fun h1 => ?_) fun h1 => ?_
 ·have hu:=znv i j (by omega)
  obtain⟨m,hm⟩:∃m,m=(i+j)/2:=⟨_,rfl⟩
  have hml:m<idx.length:=by omega
  obtain⟨p1,p2,p3,p4,p5,hg⟩:=hrow m hml
  have hmr:m<rows.length:=by omega
  have h50:=hle m hml
  try refine xz4 hr hu hm.symm hg ?_
  refine caP (zkb (idx.getD m default:Nat) b p1 p2 p3 p4 p5 (by omega) (by omega)) ?_
  try refine xz4 hr hu hm.symm hg ?_
  refine cI (fun h2 => ?_) fun h2 => ?_
  ·have hpm:m<p:=by
    rcases Nat.lt_or_ge m p with h|h
    ·exact h
    ·have:=hi m h hml;omega
   try refine xz4 hr hu hm.symm hg ?_
   refine⟨(m+1,j),⟨by simp only;omega,q2,q3⟩,by simp only;omega,To.mk [0] rfl rfl (by decide) ?_ ?_⟩
   ·(try(refine xz4 hr hu hm.symm hg ?_;try exact xtI))
   ·(try(refine xz4 hr hu hm.symm hg ?_;try exact xtI))
  ·have hpm:p≤m:=by
    rcases Nat.lt_or_ge m p with h|h
    ·have:=lo m h;omega
    ·exact h
   try refine xz4 hr hu hm.symm hg ?_
   refine⟨(i,m),⟨q1,by simp only;omega,by simp only;omega⟩,by simp only;omega,To.mk [0] rfl rfl (by decide) ?_ ?_⟩
   ·(try(refine xz4 hr hu hm.symm hg ?_;try exact xtI))
   ·(try(refine xz4 hr hu hm.symm hg ?_;try exact xtI))
 ·obtain rfl:i=p:=by omega
  have hlf:decide ((i:Int)<(idx.length:Int))=false:=decide_eq_false (by omega)
  try refine xz2 hr hlf ?_
  refine zqn ?_ ?_
  ·first|rfl|exact decide_eq_false (by omega)
  try refine xz2 hr hlf ?_
  refine zj9 [0] rfl rfl (by decide) ⟨?_,trivial⟩ trivial ?_<;>simp(etaStruct := .none)only[push_cast,zac,seval,hlf]
theorem zoo (t:Nat→Bool) (f:Nat→Rn) (q:Nat→PV) (j:Nat) (hj:j<(zaq t).length):(((zaq t).map fun k=>rnU k (f k)).mapIdx fun i x=>x.set 2 (q i)).getD j [] = [pI ((zaq t).getD j default:Nat),.v (.int .u32 (f ((zaq t).getD j default)).prom),q j,pB (f ((zaq t).getD j default)).asked,pI (f ((zaq t).getD j default)).value,.v (.int .u32 (f ((zaq t).getD j default)).acc)]:=by
 rw[List.getD_eq_getElem?_getD,List.getElem?_mapIdx,List.getElem?_map,List.getElem?_eq_getElem hj,List.getD_eq_getElem?_getD,List.getElem?_eq_getElem hj]
 rfl
theorem zno (t:Nat→Bool) (f:Nat→Rn) (b:Nat) (hb:b≤50):Spec Try.prog 25 [.own 0,I .i64 b,.clo (.func 26) [] []] [zjj t f none] (.tup [I .i64 (zcb t b),B (t b)]) [zjj t f none]:=by
 refine Spec.rawN _ _ fun q => ?_
 have hlen:(((zaq t).map fun k=>rnU k (f k)).mapIdx fun i x=>x.set 2 (q i)).length=(zaq t).length:=by simp
 have hrow:∀j,j<(zaq t).length→∃p1 p2 p3 p4 p5,(((zaq t).map fun k=>rnU k (f k)).mapIdx fun i x=>x.set 2 (q i)).getD j [] = [pI ((zaq t).getD j default:Nat),p1,p2,p3,p4,p5]:=fun j hj=>⟨_,_,_,_,_,zoo t f q j hj⟩
 have h50:∀j,j<(zaq t).length→(zaq t).getD j default≤50:=fun j hj=>(zk4 t _ (zdw _ _ hj)).1
 have hp:=zkd t b hb
 have hat:=zqm t b hb
 rcases Nat.lt_or_ge (zcb t b) (zaq t).length with h|h
 ·have:=zqt (zaq t) _ hlen hrow b (zcb t b) hb (zfn t) h50 (fun j hj=>zgp t b j hb hj) (fun j hj hl=>zgq t b j hb hj hl) h
  have e:decide ((zaq t).getD (zcb t b) default=b)=t b:=by
   cases ht:t b with
   | true=>exact decide_eq_true (hat.2 ht).2
   | false=>exact decide_eq_false fun hx=>by rw[hat.1 ⟨h,hx⟩]at ht;exact absurd ht (by decide)
  rwa [e]at this
 ·have:=zqu (zaq t) _ hlen hrow b (zcb t b) hb (zfn t) h50 (fun j hj=>zgp t b j hb hj) (fun j hj hl=>zgq t b j hb hj hl) (by omega)
  have e:t b=false:=by
   cases ht:t b with
   | true=>have:=(hat.2 ht).1;omega
   | false=>rfl
  rwa [e]
theorem zfe (t:Nat→Bool) (b:Nat):zcb (zbk t b) b=zcb t b:=by
 unfold zcb
 congr 1
 exact zb7 _ fun x hx=>by
  have:=List.mem_range.1 hx
  unfold zbk;rw[decide_eq_false (by omega),Bool.or_false]
theorem zj5 (V:List (List PV)) (t:Nat→Bool) (f:Nat→Rn) (b:Nat) (hb:b≤50) (ht:t b=true):Spec Try.prog 19 [.ptr 0 0 0,I .i64 b] [zjy (.own 1) (.own 2),.row 47 3 V,zjj t f none] (.ptr 3 (zcb t b) 0) [zjy (.own 1) (.own 3),.row 47 3 V,.dead,zjj t f (some (zcb t b,4)),.row 47 3 (zci (f b))]:=by
 have R:=zno t f b hb
 rw[ht]at R
 have hg:=zeg t b hb ht
 have hpl:zcb t b<(zaq t).length:=(List.getElem?_eq_some_iff.1 hg).1
 generalize zcb t b=p at *
 have hy:((zaq t).map fun k=>zci (f k)).getD p []=zci (f b):=by rw[List.getD_eq_getElem?_getD,List.getElem?_map,hg];rfl
 refine spB Try.func19 40 [.tmp 4] Try.results19 ?_
 try refine xst ?_
 refine caM [2] (R) ?_
 try refine xst ?_
 refine zhk (To.moveN 0 1 2 42 6 2 47 3 37 [.own 1,.own 2] _ _ rfl rfl rfl) (fun h1 => ?_) (fun h1 => ?_)
 ·(try replace h1:=xhh h1)
  exact absurd h1 (by decide)
 ·(try replace h1:=xhh h1)
  iterate 2(try simp(etaStruct := .none)only[push_cast,zac,seval,List.set_cons_zero,List.set_cons_succ,List.length_map];try refine xsu ?_)
  refine zeo (To.open 3 p 42 6 2 47 3 ((zaq t).map fun k=>rnU k (f k)) ((zaq t).map fun k=>zci (f k)) rfl (by rw[List.length_map];exact hpl)) ?_
  simp(etaStruct := .none)only[push_cast,zac,seval,hy]
  refine zj9 [0,1,2,3,4] rfl rfl (by decide) ⟨?_,?_,?_,?_,?_,trivial⟩ trivial ?_<;>simp(etaStruct := .none)only[push_cast,zac,seval,hy]
theorem zj6 (V:List (List PV)) (t:Nat→Bool) (f:Nat→Rn) (b:Nat) (hb:b≤50) (ht:t b=false) (hf:f b=default):Spec Try.prog 19 [.ptr 0 0 0,I .i64 b] [zjy (.own 1) (.own 2),.row 47 3 V,zjj t f none] (.ptr 3 (zcb t b) 0) [zjy (.own 1) (.own 3),.row 47 3 V,.dead,zjj (zbk t b) f (some (zcb t b,4)),.row 47 3 (zci (f b))]:=by
 have R:=zno t f b hb
 rw[ht]at R
 have hi:=zpe t b hb ht
 have hg:=zeg (zbk t b) b hb (by unfold zbk;rw[decide_eq_true rfl,Bool.or_true])
 rw[zfe]at hg
 have hpl:zcb t b<(zaq (zbk t b)).length:=(List.getElem?_eq_some_iff.1 hg).1
 have hp:=zkd t b hb
 have hl:=zfn t
 generalize zcb t b=p at *
 have hy:((zaq (zbk t b)).map fun k=>zci (f k)).getD p []=zci (f b):=by rw[List.getD_eq_getElem?_getD,List.getElem?_map,hg];rfl
 have INS:=zp4 (zld Try.func27 (by kernel_rfl) rfl) ((zaq t).map fun k=>rnU k (f k)) ((zaq t).map fun k=>zci (f k)) p (by rw[List.length_map];exact hp) (by rw[List.length_map];omega) [pI b,.v (.int .u32 0),.v (.slice none 0 0),pB false,pI 0,.v (.int .u32 0)] (rnU b (f b)) rfl rfl rfl (fun j hj=>by
  rw[hf]
  rcases j with _|_|_|_|_|_|j
  ·rfl
  ·rfl
  ·exact absurd rfl hj
  ·rfl
  ·rfl
  ·rfl
  ·rfl)
 have eX:(((zaq t).map fun k=>rnU k (f k)).take p++rnU b (f b)::((zaq t).map fun k=>rnU k (f k)).drop p)=(zaq (zbk t b)).map fun k=>rnU k (f k):=by
  rw[hi,List.map_append,List.map_cons,List.map_take,List.map_drop]
 have eY:(((zaq t).map fun k=>zci (f k)).take p ++ []::((zaq t).map fun k=>zci (f k)).drop p)=(zaq (zbk t b)).map fun k=>zci (f k):=by
  rw[hi,List.map_append,List.map_cons,List.map_take,List.map_drop,hf];rfl
 rw[eX,eY]at INS
 refine spB Try.func19 40 [.tmp 4] Try.results19 ?_
 try refine xst ?_
 refine caM [2] (R) ?_
 try refine xst ?_
 refine cI (fun h1 => ?_) fun h1 => ?_
 ·iterate 2(try simp(etaStruct := .none)only[push_cast,zac,seval,List.set_cons_zero,List.set_cons_succ,List.length_map];try refine xsu ?_)
  refine caM [2,3] (INS) ?_
  iterate 2(try simp(etaStruct := .none)only[push_cast,zac,seval,List.set_cons_zero,List.set_cons_succ,List.length_map];try refine xsu ?_)
  refine zeo (To.open 4 p 42 6 2 47 3 ((zaq (zbk t b)).map fun k=>rnU k (f k)) ((zaq (zbk t b)).map fun k=>zci (f k)) rfl (by rw[List.length_map];exact hpl)) ?_
  simp(etaStruct := .none)only[push_cast,zac,seval,hy]
  refine zj9 [0,1,2,4,5] rfl rfl (by decide) ⟨?_,?_,?_,?_,?_,trivial⟩ trivial ?_<;>simp(etaStruct := .none)only[push_cast,zac,seval,hy]
 ·exact absurd h1 (by decide)
end Go.Proofs.Ytmjbgbmegbkmhaa
namespace Go.Proofs.Ytmjbgbmegbkmhaa
set_option linter.all false
open Go.RowKit
set_option maxRecDepth 100000
theorem zro (n:Nat) (hn:n<4294967296):Spec Try.prog 29 [I .u32 n] [] (I .i64 (pcK n 32:Nat)) [] :=
 zf4 (zld Try.func29 rfl rfl) [.int .u32 n] _ rfl fun w=>(zpp n w hn).mono fun e w' ⟨h1,h2⟩=>⟨h1,h2▸(Below.refl _ _).drew⟩
end Go.Proofs.Ytmjbgbmegbkmhaa
namespace Go.Proofs.Ytmjbgbmegbkmhaa
set_option linter.all false
open Go.RowKit
set_option maxRecDepth 100000
set_option maxHeartbeats 1000000
theorem zf8 (n:Int):Spec Try.prog 28 [I .i64 n] [] (B (decide (1≤n)&&decide (n≤1000000))) []:=by
 refine spB Try.func28 9 [.tmp 2] Try.results28 ?_
 try refine xst ?_
 exact xrz rfl
theorem zog (v:Vw) (n:Int) (hn:1≤n∧n≤1000000):Spec Try.prog 20 [vwA v,I .i64 n] [] (.tup [vwA (if v.p<n then ⟨n,v.b,v.v⟩else v),B (decide (v.p<n))]) []:=by
 have S:=zf8 n
 rw[decide_eq_true hn.1,decide_eq_true hn.2,Bool.true_and]at S
 refine spB Try.func20 19 [.cell 4 47,.tmp 5] Try.results20 ?_
 try refine xst ?_
 refine caP (S) ?_
 try refine xst ?_
 refine cI (fun h1 => ?_) fun h1 => ?_
 ·rw[if_neg (by omega),decide_eq_false (by omega)]
  try refine xst ?_
  exact xrz rfl
 ·rw[if_pos (by omega),decide_eq_true (by omega)]
  try refine xst ?_
  exact xrz rfl
theorem zp3 (v:Vw) (n x:Int) (hn:1≤n∧n≤1000000):Spec Try.prog 23 [vwA v,I .i64 n,I .i64 x] [] (.tup [vwA (if v.p≤n then ⟨n,n,x⟩else v),B (decide (v.p≤n))]) []:=by
 have S:=zf8 n
 rw[decide_eq_true hn.1,decide_eq_true hn.2,Bool.true_and]at S
 refine spB Try.func23 22 [.cell 6 47,.tmp 7] Try.results23 ?_
 try refine xst ?_
 refine caP (S) ?_
 try refine xst ?_
 refine cI (fun h1 => ?_) fun h1 => ?_
 ·rw[if_neg (by omega),decide_eq_false (by omega)]
  try refine xst ?_
  exact xrz rfl
 ·rw[if_pos (by omega),decide_eq_true (by omega)]
  try refine xst ?_
  exact xrz rfl
theorem zg1:∀(l:List Vw) (m v:Vw),zat (l ++ [v]) m=if (zat l m).b<v.b then v else zat l m
 | [],m,v=>rfl
 | a::l,m,v=>by rw[List.cons_append,zat,zg1 l,zat]
theorem zjz (l:List Vw) (x:Int) (hl:l.length≤1000000):Spec Try.prog 22 [.c (.sl 3 (l.map vwP)),I .i64 x] [] (I .i64 (zax l x)) []:=by
 obtain⟨C,hC⟩:∃C,C=zax l x:=⟨_,rfl⟩
 rw[←hC]
 refine spB Try.func22 34 [.tmp 4] Try.results22 ?_
 try refine xst ?_
 refine cI (fun h1 => ?_) fun h1 => ?_
 ·have e:l = []:=List.eq_nil_of_length_eq_zero (by omega)
  have e2:C=x:=by rw[hC,e];rfl
  rw[e2]
  try refine xst ?_
  exact xrz rfl
 ·have h0:0<l.length:=by omega
  have e2:C=if (zat l (l.getD 0 default)).b=0 then x else (zat l (l.getD 0 default)).v:=by
   rw[hC]
   cases l with
   | nil=>simp at h0
   | cons a r=>rfl
  try refine xz2 (gd h0) za2 ?_
  refine zdl (fun k:Nat=>⟨[(17,I .i64 k),(16,I .i64 l.length),(15,.c (.sl 3 (l.map vwP))),(5,.ptr 0 0 0),(1,I .i64 x)],[(0,.blk 47 [I .i64 (zat (l.take k) (l.getD 0 default)).p,I .i64 (zat (l.take k) (l.getD 0 default)).b,I .i64 (zat (l.take k) (l.getD 0 default)).v])],1⟩) (fun k:Nat=>k≤l.length) (fun k:Nat=>l.length-k) (0) (Nat.zero_le _) (To.mk [0] rfl rfl (by decide) ?_ ?_) ?_
  ·simp(etaStruct := .none)only[push_cast,zac,seval,List.take_zero,zat]
  ·simp(etaStruct := .none)only[push_cast,zac,seval]
  rintro k hk
  try refine xz2 (gd h0) za2 ?_
  refine cI (fun h2 => ?_) fun h2 => ?_
  ·have hlt:k<l.length:=by omega
   have sn:=zd2 l k hlt
   have bs:=zg1 (l.take k) (l.getD 0 default) (l.getD k default)
   rw[←sn]at bs
   generalize zat (l.take k) (l.getD 0 default)=m at *
   try refine xz4 (gd h0) za2 (gd hlt) za2 ?_
   refine cI (fun h3 => ?_) fun h3 => ?_
   ·rw[if_pos h3]at bs
    try refine xz4 (gd h0) za2 (gd hlt) za2 ?_
    refine⟨k+1,by omega,by omega,To.mk [0] rfl rfl (by decide) ?_ ?_⟩
    ·(try(refine xz1 bs ?_;try exact xtI))
    ·(try(refine xz4 (gd h0) za2 (gd hlt) za2 ?_;try exact xtI))
   ·rw[if_neg (by omega)]at bs
    try refine xz4 (gd h0) za2 (gd hlt) za2 ?_
    refine⟨k+1,by omega,by omega,To.mk [0] rfl rfl (by decide) ?_ ?_⟩
    ·(try(refine xz1 bs ?_;try exact xtI))
    ·(try(refine xz4 (gd h0) za2 (gd hlt) za2 ?_;try exact xtI))
  ·obtain rfl:k=l.length:=by omega
   rw[List.take_length]
   try refine xz2 (gd h0) za2 ?_
   refine cI (fun h4 => ?_) fun h4 => ?_
   ·rw[if_pos h4]at e2
    rw[e2]
    try refine xz2 (gd h0) za2 ?_
    exact xrz rfl
   ·rw[if_neg h4]at e2
    rw[e2]
    try refine xz2 (gd h0) za2 ?_
    exact xrz rfl
theorem zom (V:List (List PV)) (q:PV) (s:Nat) (hs:s<4294967296) (hV:V.length≤1000000):Spec Try.prog 21 [.fel 2 [[.sl 3 V,q]] 0 0,I .u32 s] [] (B (decide (V.length<2*pcK s 32))) []:=by
 have hc:=zke s 32
 refine spB Try.func21 15 [.tmp 4] Try.results21 ?_
 (iterate 2((try simp(etaStruct := .none)only[push_cast,seval]);(try(refine xsu ?_;try exact xtI))))
 refine za1 [some 5,some 6,some 7,some 8,some 9,some 10,some 11,some 12,some 13,some 14,some 4] rfl ?_
 intro Oq lq Rq hlq hdq hRq
 subst hlq
 iterate 1(refine zaz fun rq hrq => ?_;(iterate 2((try simp(etaStruct := .none)only[push_cast,seval,hdq,id]);(try(refine xsu ?_;try exact xtI))));subst hrq)
 refine zaz fun rq hrq => ?_
 (iterate 2((try simp(etaStruct := .none)only[push_cast,seval,hdq,id]);(try(refine xsu ?_;try exact xtI))))
 refine caP (zro s hs) ?_
 (iterate 2((try simp(etaStruct := .none)only[push_cast,seval,hdq,id]);(try(refine xsu ?_;try exact xtI))))
 subst hrq
 iterate 9(refine zaz fun rq hrq => ?_;(iterate 2((try simp(etaStruct := .none)only[push_cast,seval,hdq,id]);(try(refine xsu ?_;try exact xtI))));subst hrq)
 refine zhj ?_
 subst hRq
 clear hdq Oq
 refine zhi (by kernel_rfl) ?_
 (iterate 2((try simp(etaStruct := .none)only[push_cast,seval]);(try(refine xsu ?_;try exact xtI))))
 have hd:decide ((V.length:Int)<2*((pcK s 32:Nat):Int))=decide (V.length<2*pcK s 32):=decide_eq_decide.2 (by omega)
 exact zh1 rfl trivial (Wk.of (by rw[←hd];rfl))
theorem zjw {c:Cn} {x:Stp} (hk:x.kind=1) (h:(zal c x.who.toNat).p<x.ballot):za9 c x=⟨c.vows.set x.who.toNat ⟨x.ballot,(zal c x.who.toNat).b,(zal c x.who.toNat).v⟩,zcy c.all x.ballot.toNat { c.all x.ballot.toNat with prom:=(c.all x.ballot.toNat).prom ||| 2 ^ x.who.toNat,heard:=(c.all x.ballot.toNat).heard ++ [zal c x.who.toNat] },zbk c.told x.ballot.toNat⟩:=by
 unfold za9
 simp only
 rw[if_pos ⟨hk,h⟩];rfl
theorem zjv {c:Cn} {x:Stp} (hk:x.kind=2) (ha:(c.all x.ballot.toNat).asked=false) (h:c.vows.length<2*pcK (c.all x.ballot.toNat).prom 32):za9 c x=⟨c.vows,zcy c.all x.ballot.toNat { c.all x.ballot.toNat with asked:=true,value:=zax (c.all x.ballot.toNat).heard x.value },zbk c.told x.ballot.toNat⟩:=by
 unfold za9
 simp only
 rw[if_neg (by omega),if_pos ⟨hk,ha,h⟩];rfl
theorem zg5 {c:Cn} {x:Stp} (hk:x.kind=3) (ha:(c.all x.ballot.toNat).asked=true) (h:(zal c x.who.toNat).p≤x.ballot):za9 c x=⟨c.vows.set x.who.toNat ⟨x.ballot,x.ballot,(c.all x.ballot.toNat).value⟩,zcy c.all x.ballot.toNat { c.all x.ballot.toNat with acc:=(c.all x.ballot.toNat).acc ||| 2 ^ x.who.toNat },zbk c.told x.ballot.toNat⟩:=by
 unfold za9
 simp only
 rw[if_neg (by omega),if_neg (by omega),if_pos ⟨hk,ha,h⟩];rfl
theorem zcg {c:Cn} {x:Stp} (h1:¬(x.kind=1∧(zal c x.who.toNat).p<x.ballot)) (h2:¬(x.kind=2∧(c.all x.ballot.toNat).asked=false∧c.vows.length<2*pcK (c.all x.ballot.toNat).prom 32)) (h3:¬(x.kind=3∧(c.all x.ballot.toNat).asked=true∧(zal c x.who.toNat).p≤x.ballot)):za9 c x=⟨c.vows,c.all,zbk c.told x.ballot.toNat⟩:=by
 unfold za9
 simp only
 rw[if_neg h1,if_neg h2,if_neg h3];rfl
theorem zoq (V:List (List PV)) (t:Nat→Bool) (f:Nat→Rn) (b:Nat) (hb:b≤50) (hf:t b=false→f b=default):Spec Try.prog 19 [.ptr 0 0 0,I .i64 b] [zjy (.own 1) (.own 2),.row 47 3 V,zjj t f none] (.ptr 3 (zcb t b) 0) [zjy (.own 1) (.own 3),.row 47 3 V,.dead,zjj (zbk t b) f (some (zcb t b,4)),.row 47 3 (zci (f b))]:=by
 cases ht:t b with
 | true =>
  have:=zj5 V t f b hb ht
  rwa [zni t b ht]
 | false=>exact zj6 V t f b hb ht (hf ht)
structure CnL (c : Cn) : Prop where
 n:c.vows.length≤15
 z:∀k,c.told k=false→c.all k=default
 p:∀k,(c.all k).prom<4294967296
 a:∀k,(c.all k).acc<4294967296
 h:∀k,(c.all k).heard.length≤1000
theorem zof (c:Cn) (x:Stp) (L:CnL c) (hx:zc1 c.vows.length x):Spec Try.prog 9 [.ptr 0 0 0,zq6 x] [zjy (.own 1) (.own 2),zjn c,zjj c.told c.all none] (.tup []) [zjy (.own 1) (.own 3),zjn (za9 c x),.dead,zjj (za9 c x).told (za9 c x).all none]:=by
 obtain⟨⟨k1,k3⟩,⟨w0,wn⟩,b1,b50⟩:=hx
 obtain⟨kind,who,ballot,value⟩:=x
 simp only at k1 k3 w0 wn b1 b50
 obtain⟨b,rfl⟩:∃b:Nat,ballot=b:=Int.eq_ofNat_of_zero_le (by omega)
 obtain⟨i,rfl⟩:∃i:Nat,who=i:=Int.eq_ofNat_of_zero_le w0
 have hil:i<c.vows.length:=by omega
 have hl15:=L.n
 obtain⟨c',hc'⟩:∃c',c'=za9 c ⟨kind,i,b,value⟩:=⟨_,rfl⟩
 rw[←hc']
 have R:=zoq (c.vows.map vwP) c.told c.all b (by omega) (L.z b)
 have hg:=zeg (zbk c.told b) b (by omega) (by unfold zbk;rw[decide_eq_true rfl,Bool.or_true])
 rw[zfe]at hg
 obtain⟨p,hp⟩:∃p,p=zcb c.told b:=⟨_,rfl⟩
 rw[←hp]at R hg
 have hpl:p<(zaq (zbk c.told b)).length:=(List.getElem?_eq_some_iff.1 hg).1
 have hgx:((zaq (zbk c.told b)).map fun k=>rnU k (c.all k)).getD p [] = [pI b,.v (.int .u32 (c.all b).prom),.undef,pB (c.all b).asked,pI (c.all b).value,.v (.int .u32 (c.all b).acc)]:=by rw[List.getD_eq_getElem?_getD,List.getElem?_map,hg];rfl
 have hP:=L.p b
 have hA:=L.a b
 have hH:=L.h b
 have hsh:=znk i (by omega)
 have hpw:2 ^ i<4294967296:=Nat.lt_of_le_of_lt (zmc i (by omega)).2 (by decide)
 have e2:((2 ^ i:Nat):Int)=(2:Int) ^ i:=by simp
 have hor:=zrz (c.all b).prom (2 ^ i) hP hpw
 have hor2:=zrz (c.all b).acc (2 ^ i) hA hpw
 rw[e2]at hor hor2
 have hap:zci (c.all b) ++ [[pI (zal c i).p,pI (zal c i).b,pI (zal c i).v]]=List.map vwP ((c.all b).heard ++ [zal c i]):=by rw[List.map_append];rfl
 have PR:=zog (zal c i) b (by omega)
 have AC:=zp3 (zal c i) b (c.all b).value (by omega)
 have CH:=zjz (c.all b).heard value (by omega)
 have MO:=zom (c.vows.map vwP) .undef (c.all b).prom hP (by rw[List.length_map];omega)
 rw[List.length_map]at MO
 have hgv:(c.vows.map vwP).getD i [] = [pI (zal c i).p,pI (zal c i).b,pI (zal c i).v]:=zfo vwP c.vows i hil
 have hxl:((zaq (zbk c.told b)).map fun k=>rnU k (c.all k)).length=(zaq (zbk c.told b)).length:=List.length_map _
 obtain⟨X,hX⟩:∃X,X=(zaq (zbk c.told b)).map fun k=>rnU k (c.all k):=⟨_,rfl⟩
 obtain⟨Y,hY⟩:∃Y,Y=(zaq (zbk c.told b)).map fun k=>zci (c.all k):=⟨_,rfl⟩
 rw[←hX]at hgx hxl
 have R':Spec Try.prog 19 [.ptr 0 0 0,I .i64 b] [zjy (.own 1) (.own 2),.row 47 3 (c.vows.map vwP),zjj c.told c.all none] (.ptr 3 p 0) [zjy (.own 1) (.own 3),.row 47 3 (c.vows.map vwP),.dead,.nst 42 6 2 47 3 X Y (some (p,4)),.row 47 3 (zci (c.all b))]:=by rw[hX,hY];exact R
 clear R
 have htb:zbk c.told b b=true:=by unfold zbk;rw[decide_eq_true rfl,Bool.or_true]
 have SX:∀r:Rn,X.set p (rnU b r)=(zaq (zbk c.told b)).map fun k=>rnU k (zcy c.all b r k):=fun r=>by
  have:=zk3 (zbk c.told b) b (by omega) htb (fun k=>rnU k (c.all k)) (fun k=>rnU k (zcy c.all b r k)) (fun k hk=>by rw[zao _ _ hk])
  rw[zau,zfe,←hp,←hX]at this
  exact this.symm
 have SY:∀r:Rn,Y.set p (zci r)=(zaq (zbk c.told b)).map fun k=>zci (zcy c.all b r k):=fun r=>by
  have:=zk3 (zbk c.told b) b (by omega) htb (fun k=>zci (c.all k)) (fun k=>zci (zcy c.all b r k)) (fun k hk=>by rw[zao _ _ hk])
  rw[zau,zfe,←hp,←hY]at this
  exact this.symm
 have pself:zcy c.all b (c.all b)=c.all:=by
  funext k
  by_cases hk:k=b
  ·rw[hk,zau]
  ·rw[zao _ _ hk]
 have SY0:=SY (c.all b)
 rw[pself]at SY0
 have hgs:∀v,(X.set p v).getD p []=v:=fun v=>by rw[List.getD_eq_getElem?_getD,List.getElem?_set_self (by omega)];rfl
 have t16:Nat.blt 1 6=true:=rfl
 have t26:Nat.blt 2 6=true:=rfl
 have t36:Nat.blt 3 6=true:=rfl
 have t46:Nat.blt 4 6=true:=rfl
 have t56:Nat.blt 5 6=true:=rfl
 refine spB Try.func9 123 [] Try.results9 ?_
 (iterate 2((try simp(etaStruct := .none)only[push_cast,seval,hgx,hgv,hxl,t16,t26,t36,t46,t56]);(try(refine xsu ?_;try exact xtI))))
 refine caM [0,1,2] (R') ?_
 (iterate 2((try simp(etaStruct := .none)only[push_cast,seval,hgx,hgv,hxl,t16,t26,t36,t46,t56]);(try(refine xsu ?_;try exact xtI))))
 refine za1 [some 14,some 15,some 16,some 17,some 18,some 19,some 20,some 21,some 5] rfl ?_
 intro Oq lq Rq hlq hdq hRq
 subst hlq
 iterate 9(refine zaz fun rq hrq => ?_;(iterate 2((try simp(etaStruct := .none)only[push_cast,seval,hdq,id,hgx,hgv,hxl,t16,t26,t36,t46,t56]);(try(refine xsu ?_;try exact xtI))));subst hrq)
 refine zhj ?_
 subst hRq
 clear hdq Oq
 refine zhi (by kernel_rfl) ?_
 (iterate 2((try simp(etaStruct := .none)only[push_cast,seval,hgx,hgv,hxl,t16,t26,t36,t46,t56]);(try(refine xsu ?_;try exact xtI))))
 refine cI (fun h1 => ?_) fun h1 => ?_
 ·(iterate 2((try simp(etaStruct := .none)only[push_cast,seval,hgx,hgv,hxl,t16,t26,t36,t46,t56]);(try(refine xsu ?_;try exact xtI))))
  refine za1 [some 27,some 28,some 29,some 30,some 31,some 32,some 26,some 33,some 34,some 6,none,some 7] rfl ?_
  intro Oq lq Rq hlq hdq hRq
  subst hlq
  iterate 5(refine zaz fun rq hrq => ?_;(iterate 2((try simp(etaStruct := .none)only[push_cast,seval,hdq,id,hgx,hgv,hxl,t16,t26,t36,t46,t56]);(try(refine xsu ?_;try exact xtI))));subst hrq)
  refine zaz fun rq hrq => ?_
  (iterate 2((try simp(etaStruct := .none)only[push_cast,seval,hdq,id,hgx,hgv,hxl,t16,t26,t36,t46,t56]);(try(refine xsu ?_;try exact xtI))))
  refine caP (PR) ?_
  (iterate 2((try simp(etaStruct := .none)only[push_cast,seval,hdq,id,hgx,hgv,hxl,t16,t26,t36,t46,t56]);(try(refine xsu ?_;try exact xtI))))
  subst hrq
  iterate 6(refine zaz fun rq hrq => ?_;(iterate 2((try simp(etaStruct := .none)only[push_cast,seval,hdq,id,hgx,hgv,hxl,t16,t26,t36,t46,t56]);(try(refine xsu ?_;try exact xtI))));subst hrq)
  refine zhj ?_
  subst hRq
  clear hdq Oq
  refine zhi (by kernel_rfl) ?_
  (iterate 2((try simp(etaStruct := .none)only[push_cast,seval,hgx,hgv,hxl,t16,t26,t36,t46,t56]);(try(refine xsu ?_;try exact xtI))))
  refine cI (fun h2 => ?_) fun h2 => ?_
  ·rw[if_pos h2]
   (iterate 2((try simp(etaStruct := .none)only[push_cast,seval,hgx,hgv,hxl,t16,t26,t36,t46,t56]);(try(refine xsu ?_;try exact xtI))))
   refine za1 [some 36,some 37,some 38,some 39,some 40,some 41,some 42,some 43,some 44,some 45,none] rfl ?_
   intro Oq lq Rq hlq hdq hRq
   subst hlq
   iterate 11(refine zaz fun rq hrq => ?_;(iterate 2((try simp(etaStruct := .none)only[push_cast,seval,hdq,id,hgx,hgv,hxl,t16,t26,t36,t46,t56]);(try(refine xsu ?_;try exact xtI))));subst hrq)
   refine zhj ?_
   subst hRq
   clear hdq Oq
   refine zhi (by kernel_rfl) ?_
   (iterate 2((try simp(etaStruct := .none)only[push_cast,seval,hgx,hgv,hxl,t16,t26,t36,t46,t56]);(try(refine xsu ?_;try exact xtI))))
   refine za1 [some 46,some 47,some 48,some 49,some 50,some 51,some 52,some 53,some 54,some 55,some 56,some 57,none] rfl ?_
   intro Oq lq Rq hlq hdq hRq
   subst hlq
   iterate 13(refine zaz fun rq hrq => ?_;(iterate 2((try simp(etaStruct := .none)only[push_cast,seval,hdq,id,hgx,hgv,hxl,t16,t26,t36,t46,t56]);(try(refine xsu ?_;try exact xtI))));subst hrq)
   refine zhj ?_
   subst hRq
   clear hdq Oq
   refine zhi (by kernel_rfl) ?_
   (iterate 2((try simp(etaStruct := .none)only[push_cast,seval,hgx,hgv,hxl,t16,t26,t36,t46,t56]);(try(refine xsu ?_;try exact xtI))))
   have hc1:=hc'.trans (zjw (c:=c) (x:=⟨kind,i,b,value⟩) h1 h2)
   rw[hc1]
   refine zeo (To.close 4 p 170 42 6 2 47 3 _ _ _ rfl rfl) (zj9 [0,1,2,4] rfl rfl (by decide) ⟨?_,?_,?_,?_,trivial⟩ trivial ?_)<;>simp(etaStruct := .none)only[push_cast,zac,seval,hsh,List.set_set,hgs]
   ·show (c.vows.map vwP).set i (vwP ⟨b,(zal c i).b,(zal c i).v⟩)=_
    rw[List.map_set]
   ·rw[hor,hap]
    exact⟨SX { c.all b with prom:=(c.all b).prom ||| 2 ^ i,heard:=(c.all b).heard ++ [zal c i] },SY { c.all b with prom:=(c.all b).prom ||| 2 ^ i,heard:=(c.all b).heard ++ [zal c i] }⟩
  ·rw[if_neg (by omega)]
   (iterate 2((try simp(etaStruct := .none)only[push_cast,seval,hgx,hgv,hxl,t16,t26,t36,t46,t56]);(try(refine xsu ?_;try exact xtI))))
   have hc1:=hc'.trans (zcg (c:=c) (x:=⟨kind,i,b,value⟩) (by simp only[Int.toNat_natCast];omega) (by simp only[Int.toNat_natCast];omega) (by simp only[Int.toNat_natCast];omega))
   rw[hc1]
   refine zeo (To.close 4 p 5 42 6 2 47 3 _ _ _ rfl rfl) (zj9 [0,1,2,4] rfl rfl (by decide) ⟨?_,?_,?_,?_,trivial⟩ trivial ?_)<;>simp(etaStruct := .none)only[push_cast,zac,seval,hsh,List.set_set,hgs]
   exact⟨hX,SY0⟩
 ·(iterate 2((try simp(etaStruct := .none)only[push_cast,seval,hgx,hgv,hxl,t16,t26,t36,t46,t56]);(try(refine xsu ?_;try exact xtI))))
  refine cI (fun h3 => ?_) fun h3 => ?_
  ·(iterate 2((try simp(etaStruct := .none)only[push_cast,seval,hgx,hgv,hxl,t16,t26,t36,t46,t56]);(try(refine xsu ?_;try exact xtI))))
   refine zqo (fun hcc=>MO) (WkL.refl _) rfl (by intro hc;(try simp(etaStruct := .none)only[push_cast,zac,seval]);(try simp_all)) ?_
   (iterate 2((try simp(etaStruct := .none)only[push_cast,seval,hgx,hgv,hxl,t16,t26,t36,t46,t56]);(try(refine xsu ?_;try exact xtI))))
   refine cI (fun h4 => ?_) fun h4 => ?_
   ·(iterate 2((try simp(etaStruct := .none)only[push_cast,seval,hgx,hgv,hxl,t16,t26,t36,t46,t56]);(try(refine xsu ?_;try exact xtI))))
    refine za1 [some 76,some 77,some 78,some 79,some 80,some 81,some 82,some 83,some 84,some 85,some 86,none,some 87,some 88,none] rfl ?_
    intro Oq lq Rq hlq hdq hRq
    subst hlq
    iterate 8(refine zaz fun rq hrq => ?_;(iterate 2((try simp(etaStruct := .none)only[push_cast,seval,hdq,id,hgx,hgv,hxl,t16,t26,t36,t46,t56]);(try(refine xsu ?_;try exact xtI))));subst hrq)
    refine zaz fun rq hrq => ?_
    (iterate 2((try simp(etaStruct := .none)only[push_cast,seval,hdq,id,hgx,hgv,hxl,t16,t26,t36,t46,t56]);(try(refine xsu ?_;try exact xtI))))
    refine znd (CH) (WkL.refl _) rfl ?_
    (iterate 2((try simp(etaStruct := .none)only[push_cast,seval,hdq,id,hgx,hgv,hxl,t16,t26,t36,t46,t56]);(try(refine xsu ?_;try exact xtI))))
    subst hrq
    iterate 6(refine zaz fun rq hrq => ?_;(iterate 2((try simp(etaStruct := .none)only[push_cast,seval,hdq,id,hgx,hgv,hxl,t16,t26,t36,t46,t56]);(try(refine xsu ?_;try exact xtI))));subst hrq)
    refine zhj ?_
    subst hRq
    clear hdq Oq
    refine zhi (by kernel_rfl) ?_
    (iterate 2((try simp(etaStruct := .none)only[push_cast,seval,hgx,hgv,hxl,t16,t26,t36,t46,t56]);(try(refine xsu ?_;try exact xtI))))
    have hc1:=hc'.trans (zjv (c:=c) (x:=⟨kind,i,b,value⟩) h3 h4.1 h4.2)
    rw[hc1]
    refine zeo (To.close 4 p 5 42 6 2 47 3 _ _ _ rfl rfl) (zj9 [0,1,2,4] rfl rfl (by decide) ⟨?_,?_,?_,?_,trivial⟩ trivial ?_)<;>simp(etaStruct := .none)only[push_cast,zac,seval,hsh,List.set_set,hgs]
    exact⟨SX { c.all b with asked:=true,value:=zax (c.all b).heard value },SY { c.all b with asked:=true,value:=zax (c.all b).heard value }⟩
   ·(iterate 2((try simp(etaStruct := .none)only[push_cast,seval,hgx,hgv,hxl,t16,t26,t36,t46,t56]);(try(refine xsu ?_;try exact xtI))))
    have hc1:=hc'.trans (zcg (c:=c) (x:=⟨kind,i,b,value⟩) (by simp only[Int.toNat_natCast];omega) (by simp only[Int.toNat_natCast];rintro⟨-,a1,a2⟩;rw[a1]at h4;exact h4.elim (fun h=>absurd h (by decide)) fun h=>h a2) (by simp only[Int.toNat_natCast];omega))
    rw[hc1]
    refine zeo (To.close 4 p 5 42 6 2 47 3 _ _ _ rfl rfl) (zj9 [0,1,2,4] rfl rfl (by decide) ⟨?_,?_,?_,?_,trivial⟩ trivial ?_)<;>simp(etaStruct := .none)only[push_cast,zac,seval,hsh,List.set_set,hgs]
    exact⟨hX,SY0⟩
  ·(iterate 2((try simp(etaStruct := .none)only[push_cast,seval,hgx,hgv,hxl,t16,t26,t36,t46,t56]);(try(refine xsu ?_;try exact xtI))))
   refine cI (fun h5 => ?_) fun h5 => ?_
   ·(iterate 2((try simp(etaStruct := .none)only[push_cast,seval,hgx,hgv,hxl,t16,t26,t36,t46,t56]);(try(refine xsu ?_;try exact xtI))))
    refine cI (fun h6 => ?_) fun h6 => ?_
    ·(iterate 2((try simp(etaStruct := .none)only[push_cast,seval,hgx,hgv,hxl,t16,t26,t36,t46,t56]);(try(refine xsu ?_;try exact xtI))))
     have hc1:=hc'.trans (zcg (c:=c) (x:=⟨kind,i,b,value⟩) (by simp only[Int.toNat_natCast];omega) (by simp only[Int.toNat_natCast];omega) (by simp only[Int.toNat_natCast];rintro⟨-,a1,-⟩;rw[h6]at a1;exact absurd a1 (by decide)))
     rw[hc1]
     refine zeo (To.close 4 p 5 42 6 2 47 3 _ _ _ rfl rfl) (zj9 [0,1,2,4] rfl rfl (by decide) ⟨?_,?_,?_,?_,trivial⟩ trivial ?_)<;>simp(etaStruct := .none)only[push_cast,zac,seval,hsh,List.set_set,hgs]
     exact⟨hX,SY0⟩
    ·(iterate 2((try simp(etaStruct := .none)only[push_cast,seval,hgx,hgv,hxl,t16,t26,t36,t46,t56]);(try(refine xsu ?_;try exact xtI))))
     refine za1 [some 97,some 98,some 99,some 100,some 101,some 102,some 103,some 104,some 105,some 106,some 96,some 107,some 108,some 8,none,some 9] rfl ?_
     intro Oq lq Rq hlq hdq hRq
     subst hlq
     iterate 9(refine zaz fun rq hrq => ?_;(iterate 2((try simp(etaStruct := .none)only[push_cast,seval,hdq,id,hgx,hgv,hxl,t16,t26,t36,t46,t56]);(try(refine xsu ?_;try exact xtI))));subst hrq)
     refine zaz fun rq hrq => ?_
     (iterate 2((try simp(etaStruct := .none)only[push_cast,seval,hdq,id,hgx,hgv,hxl,t16,t26,t36,t46,t56]);(try(refine xsu ?_;try exact xtI))))
     refine caP (AC) ?_
     (iterate 2((try simp(etaStruct := .none)only[push_cast,seval,hdq,id,hgx,hgv,hxl,t16,t26,t36,t46,t56]);(try(refine xsu ?_;try exact xtI))))
     subst hrq
     iterate 6(refine zaz fun rq hrq => ?_;(iterate 2((try simp(etaStruct := .none)only[push_cast,seval,hdq,id,hgx,hgv,hxl,t16,t26,t36,t46,t56]);(try(refine xsu ?_;try exact xtI))));subst hrq)
     refine zhj ?_
     subst hRq
     clear hdq Oq
     refine zhi (by kernel_rfl) ?_
     (iterate 2((try simp(etaStruct := .none)only[push_cast,seval,hgx,hgv,hxl,t16,t26,t36,t46,t56]);(try(refine xsu ?_;try exact xtI))))
     refine cI (fun h7 => ?_) fun h7 => ?_
     ·rw[if_pos h7]
      (iterate 2((try simp(etaStruct := .none)only[push_cast,seval,hgx,hgv,hxl,t16,t26,t36,t46,t56]);(try(refine xsu ?_;try exact xtI))))
      refine za1 [some 110,some 111,some 112,some 113,some 114,some 115,some 116,some 117,some 118,some 119,none] rfl ?_
      intro Oq lq Rq hlq hdq hRq
      subst hlq
      iterate 11(refine zaz fun rq hrq => ?_;(iterate 2((try simp(etaStruct := .none)only[push_cast,seval,hdq,id,hgx,hgv,hxl,t16,t26,t36,t46,t56]);(try(refine xsu ?_;try exact xtI))));subst hrq)
      refine zhj ?_
      subst hRq
      clear hdq Oq
      refine zhi (by kernel_rfl) ?_
      (iterate 2((try simp(etaStruct := .none)only[push_cast,seval,hgx,hgv,hxl,t16,t26,t36,t46,t56]);(try(refine xsu ?_;try exact xtI))))
      have hc1:=hc'.trans (zg5 (c:=c) (x:=⟨kind,i,b,value⟩) h5 h6 h7)
      rw[hc1]
      refine zeo (To.close 4 p 5 42 6 2 47 3 _ _ _ rfl rfl) (zj9 [0,1,2,4] rfl rfl (by decide) ⟨?_,?_,?_,?_,trivial⟩ trivial ?_)<;>simp(etaStruct := .none)only[push_cast,zac,seval,hsh,List.set_set,hgs]
      ·show (c.vows.map vwP).set i (vwP ⟨b,b,(c.all b).value⟩)=_
       rw[List.map_set]
      ·exact⟨by rw[hor2];exact SX { c.all b with acc:=(c.all b).acc ||| 2 ^ i },SY { c.all b with acc:=(c.all b).acc ||| 2 ^ i }⟩
     ·rw[if_neg (by omega)]
      (iterate 2((try simp(etaStruct := .none)only[push_cast,seval,hgx,hgv,hxl,t16,t26,t36,t46,t56]);(try(refine xsu ?_;try exact xtI))))
      have hc1:=hc'.trans (zcg (c:=c) (x:=⟨kind,i,b,value⟩) (by simp only[Int.toNat_natCast];omega) (by simp only[Int.toNat_natCast];omega) (by simp only[Int.toNat_natCast];omega))
      rw[hc1]
      refine zeo (To.close 4 p 5 42 6 2 47 3 _ _ _ rfl rfl) (zj9 [0,1,2,4] rfl rfl (by decide) ⟨?_,?_,?_,?_,trivial⟩ trivial ?_)<;>simp(etaStruct := .none)only[push_cast,zac,seval,hsh,List.set_set,hgs]
      exact⟨hX,SY0⟩
   ·omega
end Go.Proofs.Ytmjbgbmegbkmhaa
namespace Go.Proofs.Ytmjbgbmegbkmhaa
set_option linter.all false
open Go.RowKit
set_option maxRecDepth 100000
theorem zmt {α : Type} (p : α → Bool) (l:List α):decide (0≤zpb p l)=l.any p:=by
 unfold zpb
 cases h:l.findIdx? p with
 | none =>
  have:=List.findIdx?_eq_none_iff.1 h
  simp only[show ¬(0:Int) ≤ -1 by omega,decide_false]
  symm;rw[List.any_eq_false];intro x hx;simp[this x hx]
 | some i =>
  obtain⟨hi,h1,_⟩:=List.findIdx?_eq_some_iff_getElem.1 h
  simp only[Int.natCast_nonneg,decide_true]
  symm;rw[List.any_eq_true];exact⟨_,List.getElem_mem hi,h1⟩
end Go.Proofs.Ytmjbgbmegbkmhaa
namespace Go.Proofs.Ytmjbgbmegbkmhaa
set_option linter.all false
open Go.RowKit
set_option maxRecDepth 100000
set_option maxHeartbeats 1000000
def ze5 (n:Int) (x:Stp):Bool:=decide (x.kind<1)||decide (3<x.kind)||decide (x.who<0)||decide (n≤x.who)||decide (x.ballot<1)||decide (50<x.ballot)
theorem badS_iff {n:Nat} {x:Stp} : ze5 n x=false↔zc1 n x:=by
 unfold ze5 zc1
 simp only[Bool.or_eq_false_iff,decide_eq_false_iff_not]
 omega
theorem zp1 (F:FuncId) (a b:List AV) (l:List Stp) (p:Stp→Bool) (hl:l.length≤9223372036854775807) (hp:∀n∈l,Spec Try.prog F (a ++ [zq6 n]++b) [] (B (p n)) []) (ha:∀h,cvL [] h a=a) (hb:∀h,cvL [] h b=b) :
 Spec Try.prog 18 [.c (.sl 4 (l.map zdo)),.clo (.func F) a b] [] (I .i64 (zpb p l)) []:=by
 refine spB Try.func18 19 [.tmp 4] Try.results18 ?_
 simp(etaStruct := .none)only[push_cast,zac,seval]
 refine zdl (fun k:Nat=>⟨[(8,I .i64 k),(7,I .i64 l.length),(0,.c (.sl 4 (l.map zdo))),(1,.clo (.func F) a b)],[],0⟩) (fun k=>k≤l.length∧∀j (hj:j<l.length),j<k→p l[j]=false) (fun k=>l.length-k) 0 ⟨Nat.zero_le _,fun j _ h=>by omega⟩ (To.mk [] rfl rfl List.nodup_nil trivial ?_) ?_
 ·simp(etaStruct := .none)only[push_cast,zac,seval,ha,hb]
 ·rintro k ⟨hk,hn⟩
  simp(etaStruct := .none)only[push_cast,zac,seval]
  refine ze2 (fun h => ?_) (fun h => ?_)
  ·have hlt:k<l.length:=by simpa using h
   simp(etaStruct := .none)only[push_cast,zac,seval,zm0 _ _ _ hlt,zdo]
   repeat with_reducible refine obA ?_
   refine znc (hp _ (List.getElem_mem hlt)) (by simp only[ze1,ha,hb,cvL,cv];exact WkL.refl _) ?_
   simp(etaStruct := .none)only[push_cast,zac,seval]
   refine ze2 (fun h => ?_) (fun h => ?_)
   ·simp(etaStruct := .none)only[push_cast,zac,seval]
    exact zh1 rfl trivial (Wk.of (by rw[zms p l k hlt h hn];rfl))
   ·simp(etaStruct := .none)only[push_cast,zac,seval]
    refine⟨k+1,⟨by omega,fun j hj hjk => ?_⟩,by omega,To.mk [] rfl rfl List.nodup_nil trivial ?_⟩
    ·by_cases e:j=k
     ·subst e;exact h
     ·exact hn j hj (by omega)
    ·simp(etaStruct := .none)only[push_cast,zac,seval,ha,hb]
     simp(disch:=omega)only[zam,zak,tdv,tmd]
  ·have hge:k=l.length:=by simp at h;omega
   subst hge
   simp(etaStruct := .none)only[push_cast,zac,seval]
   exact zh1 rfl trivial (Wk.of (by rw[zkw p l (fun j hj=>hn j hj hj)];rfl))
theorem zjs (F:FuncId) (a b:List AV) (l:List Stp) (p:Stp→Bool) (hl:l.length≤9223372036854775807) (hp:∀n∈l,Spec Try.prog F (a ++ [zq6 n]++b) [] (B (p n)) []) (ha:∀h,cvL [] h a=a) (hb:∀h,cvL [] h b=b) :
 Spec Try.prog 7 [.c (.sl 4 (l.map zdo)),.clo (.func F) a b] [] (B (l.any p)) []:=by
 refine spB Try.func7 9 [.tmp 4] Try.results7 ?_
 simp(etaStruct := .none)only[push_cast,zac,seval]
 refine znc (zp1 F a b l p hl hp ha hb) (by simp only[ha,hb,cvL,cv];exact WkL.refl _) ?_
 simp(etaStruct := .none)only[push_cast,zac,seval]
 exact zh1 rfl trivial (Wk.of (by rw[zmt];rfl))
theorem znl (n:Int) (x:Stp):Spec Try.prog 8 ([] ++ [zq6 x] ++ [.fel 1 [[pI n]] 0 0]) [] (B (ze5 n x)) []:=by
 refine spB Try.func8 33 [.tmp 3] Try.results8 ?_
 try refine xst ?_
 (first|(refine zq8 rfl (Wk.of ?_);(try simp(etaStruct := .none)only[push_cast,zac,seval]);first|done|(simp[ze5, *];done)|(simp_all[ze5];done))|(refine zq8 rfl ?_;(try simp(etaStruct := .none)only[push_cast,zac,seval]);(try simp[ze5, *]);(try exact wkc)))
abbrev zn6:AV := .agg [.c (.v (.slice none 0 0)),.c (.v (.slice none 0 0))]
def rnP (k:Nat) (r:Rn):List PV := [pI k,.v (.int .u32 r.prom),.sl 3 (zci r),pB r.asked,pI r.value,.v (.int .u32 r.acc)]
abbrev zrb (c:Cn):AV := .agg [.c (.sl 3 (c.vows.map vwP)),.c (.sl 6 ((zaq c.told).map fun k=>rnP k (c.all k)))]
theorem zoh (n:Int) (l:List Stp) (h:¬(1≤n∧n≤15)):Spec Try.prog 4 [I .i64 n,.c (.sl 4 (l.map zdo))] [] (.tup [zn6,I .i64 1]) []:=by
 refine spB Try.func4 39 [.cell 4 26,.tmp 5] Try.results4 ?_
 try refine xst ?_
 refine cI (fun h1 => ?_) fun h1 => ?_
 ·try refine xst ?_
  exact xrz rfl
 ·omega
theorem zoi (n:Int) (l:List Stp) (h:1≤n∧n≤15) (h5:500<l.length):Spec Try.prog 4 [I .i64 n,.c (.sl 4 (l.map zdo))] [] (.tup [zn6,I .i64 2]) []:=by
 refine spB Try.func4 39 [.cell 4 26,.tmp 5] Try.results4 ?_
 try refine xst ?_
 refine cI (fun h1 => ?_) fun h1 => ?_
 ·omega
 ·try refine xst ?_
  refine cI (fun h2 => ?_) fun h2 => ?_
  ·try refine xst ?_
   exact xrz rfl
  ·omega
theorem zoj (n:Int) (l:List Stp) (h:1≤n∧n≤15) (h5:l.length≤500) (hb:l.any (ze5 n)=true):Spec Try.prog 4 [I .i64 n,.c (.sl 4 (l.map zdo))] [] (.tup [zn6,I .i64 1]) []:=by
 have C:=zjs 8 [] [.fel 1 [[pI n]] 0 0] l (ze5 n) (by omega) (fun x _=>znl n x) (fun _=>rfl) (fun _=>rfl)
 rw[hb]at C
 refine spB Try.func4 39 [.cell 4 26,.tmp 5] Try.results4 ?_
 try refine xst ?_
 refine cI (fun h1 => ?_) fun h1 => ?_
 ·omega
 ·try refine xst ?_
  refine cI (fun h2 => ?_) fun h2 => ?_
  ·omega
  ·try refine xst ?_
   refine znd (C) (WkL.refl _) rfl ?_
   try refine xst ?_
   refine cI (fun h3 => ?_) fun h3 => ?_
   ·try refine xst ?_
    exact xrz rfl
   ·exact absurd h3 (by decide)
theorem zjm (n:Nat) (h:n≤15):CnL (zaj n):=⟨by simp[zaj];exact h,fun _ _=>rfl,fun _=>(by decide:(0:Nat)<4294967296),fun _=>(by decide:(0:Nat)<4294967296),fun _=>Nat.zero_le _⟩
theorem zqb {a i:Nat} (ha:a<4294967296) (hi:i<32):a ||| 2 ^ i<4294967296:=Nat.or_lt_two_pow (n:=32) ha (Nat.pow_lt_pow_right (by decide) hi)
theorem zhy (c:Cn) (x:Stp):(za9 c x).vows.length=c.vows.length:=by
 unfold za9
 simp only
 repeat' split
 all_goals simp
theorem zju {c:Cn} {x:Stp} {m:Nat} (L:CnL c) (hm:∀k,(c.all k).heard.length≤m) (hm9:m<1000) (hx:zc1 c.vows.length x):CnL (za9 c x)∧∀k,((za9 c x).all k).heard.length≤m+1:=by
 obtain⟨⟨k1,k3⟩,⟨w0,wn⟩,b1,b50⟩:=hx
 have hn:=L.n
 have hw:x.who.toNat<32:=by omega
 have key:∀f:Nat→Rn,(∀k,f k=c.all k∨(k=x.ballot.toNat∧(f k).prom<4294967296∧(f k).acc<4294967296∧(f k).heard.length≤m+1))→∀V:List Vw,V.length=c.vows.length→CnL ⟨V,f,fun k=>c.told k||decide (k=x.ballot.toNat)⟩∧∀k,(f k).heard.length≤m+1:=by
  intro f hf V hV
  have hh:∀k,(f k).heard.length≤m+1:=fun k=>by
   rcases hf k with e|⟨_,_,_,e⟩
   ·rw[e];have:=hm k;omega
   ·exact e
  refine⟨⟨by rw[hV];exact hn,fun k hk => ?_,fun k => ?_,fun k => ?_,fun k=>Nat.le_trans (hh k) (by omega)⟩,hh⟩
  ·simp only[Bool.or_eq_false_iff,decide_eq_false_iff_not]at hk
   rcases hf k with e|⟨e,_⟩
   ·exact e.trans (L.z k hk.1)
   ·exact absurd e hk.2
  ·rcases hf k with e|⟨_,e,_,_⟩
   ·show (f k).prom<_;rw[e];exact L.p k
   ·exact e
  ·rcases hf k with e|⟨_,_,e,_⟩
   ·show (f k).acc<_;rw[e];exact L.a k
   ·exact e
 have hb:=hm x.ballot.toNat
 have put:∀r:Rn,r.prom<4294967296→r.acc<4294967296→r.heard.length≤m+1→∀k,zcy c.all x.ballot.toNat r k=c.all k∨(k=x.ballot.toNat∧(zcy c.all x.ballot.toNat r k).prom<4294967296∧(zcy c.all x.ballot.toNat r k).acc<4294967296∧(zcy c.all x.ballot.toNat r k).heard.length≤m+1):=fun r h1 h2 h3 k=>by
  by_cases hk:k=x.ballot.toNat
  ·right
   subst hk
   rw[zau]
   exact⟨rfl,h1,h2,h3⟩
  ·left;exact zao _ _ hk
 unfold za9
 simp only
 split
 ·refine key _ (put _ ?_ ?_ ?_) _ (by simp)
  ·exact zqb (L.p _) hw
  ·exact L.a _
  ·show ((c.all x.ballot.toNat).heard ++ [zal c x.who.toNat]).length≤m+1
   rw[List.length_append];simp;exact hb
 ·split
  ·refine key _ (put _ ?_ ?_ ?_) _ rfl
   ·exact L.p _
   ·exact L.a _
   ·exact Nat.le_succ_of_le hb
  ·split
   ·refine key _ (put _ ?_ ?_ ?_) _ (by simp)
    ·exact L.p _
    ·exact zqb (L.a _) hw
    ·exact Nat.le_succ_of_le hb
   ·exact key _ (fun k => .inl rfl) _ rfl
theorem zf2 (c:Cn):∀l:List Stp,(zai c l).vows.length=c.vows.length:=fun l=>by
 unfold zai
 induction l generalizing c with
 | nil=>rfl
 | cons x r ih=>rw[List.foldl_cons,ih,zhy]
theorem zhx:∀(l:List Stp) {c:Cn} {m:Nat},CnL c→(∀k,(c.all k).heard.length≤m)→m+l.length<1000→(∀x∈l,zc1 c.vows.length x)→CnL (zai c l)
 | [],_,_,L,_,_,_=>L
 | x::r,c,m,L,hm,h,hx=>by
  simp only[List.length_cons]at h
  obtain⟨a,b⟩:=zju L hm (by omega) (hx x (by simp))
  exact zhx r a b (by omega) fun y hy=>by rw[zhy];exact hx y (by simp[hy])
theorem zoe {n:Nat} (l:List Stp) (hn:n≤15) (h5:l.length≤500) (hb:∀x∈l,zc1 n x):CnL (zai (zaj n) l) :=
 zhx (m:=0) l (zjm n hn) (fun _=>Nat.le_refl _) (by omega) fun x hx=>by
  have:(zaj n).vows.length=n:=by simp[zaj]
  rw[this];exact hb x hx
theorem zly (t:Nat→Bool) (f:Nat→Rn):unN 2 3 ((zaq t).map fun k=>rnU k (f k)) ((zaq t).map fun k=>zci (f k))=(zaq t).map fun k=>rnP k (f k):=by
 unfold unN
 rw[List.zipWith_map,List.zipWith_self]
 rfl
theorem zl1 (n:Nat) (l:List Stp) (h:1≤n∧n≤15) (h5:l.length≤500) (hb:∀x∈l,zc1 n x):Spec Try.prog 4 [I .i64 n,.c (.sl 4 (l.map zdo))] [] (.tup [zrb (zai (zaj n) l),I .i64 0]) []:=by
 have C:=zjs 8 [] [.fel 1 [[pI n]] 0 0] l (ze5 n) (by omega) (fun x _=>znl n x) (fun _=>rfl) (fun _=>rfl)
 have hany:l.any (ze5 n)=false:=List.any_eq_false.2 fun x hx=>by rw[badS_iff.2 (hb x hx)];decide
 rw[hany]at C
 have zs1:zai (zaj n) []=zaj n:=rfl
 have zs2:(zaj n).vows.map vwP=List.replicate n [pI 0,pI 0,pI 0]:=by
  unfold zaj
  simp only[List.map_replicate];rfl
 have zs3:zaq (zaj n).told = []:=by
  unfold zaq zaj
  simp
 refine spB Try.func4 39 [.cell 4 26,.tmp 5] Try.results4 ?_
 try refine xst ?_
 refine cI (fun h1 => ?_) fun h1 => ?_
 ·omega
 ·try refine xst ?_
  refine cI (fun h2 => ?_) fun h2 => ?_
  ·omega
  ·try refine xst ?_
   refine znd (C) (WkL.refl _) rfl ?_
   try refine xst ?_
   refine cI (fun h3 => ?_) fun h3 => ?_
   ·exact absurd h3 (by decide)
   ·try refine xst ?_
    refine zdl (fun k:Nat=>⟨[(30,I .i64 k),(29,I .i64 l.length),(28,.c (.sl 4 (l.map zdo))),(6,.ptr 1 0 0),(4,.ptr 0 0 0)],[(0,.blk 26 [.c (.v (.slice none 0 0)),.c (.v (.slice none 0 0))]),(1,zjy (.own 2) (.own 3)),(2,zjn (zai (zaj n) (l.take k))),(3,zjj (zai (zaj n) (l.take k)).told (zai (zaj n) (l.take k)).all none)],4⟩) (fun k:Nat=>k≤l.length∧CnL (zai (zaj n) (l.take k))∧∀j,((zai (zaj n) (l.take k)).all j).heard.length≤k) (fun k:Nat=>l.length-k) (0) (⟨Nat.zero_le _,zjm n h.2,fun _=>Nat.le_refl _⟩) ((To.nilC 3 1 42 6 37 _ rfl rfl).trans ((To.nst 4 42 6 2 47 3 [] rfl (by decide) (by simp)).trans (To.mk [1,3,2,4] rfl rfl (by decide) ?_ ?_))) ?_
    ·simp(etaStruct := .none)only[push_cast,zac,seval,List.take_zero,List.set_cons_zero,List.set_cons_succ,zs1,zs2,zs3]
    ·simp(etaStruct := .none)only[push_cast,zac,seval]
    rintro k ⟨hk,L,hm⟩
    try refine xst ?_
    refine cI (fun h4 => ?_) fun h4 => ?_
    ·have hlt:k<l.length:=by omega
     have sn:=zd3 (zaj n) (l.take k) (l.getD k default)
     rw[←zd2 l k hlt]at sn
     have hvl:(zai (zaj n) (l.take k)).vows.length=n:=by rw[zf2];simp[zaj]
     have hx:=hb _ (zdw l k hlt)
     rw[←hvl]at hx
     have ST:=zof _ _ L hx
     have SL:=zju L hm (by omega) hx
     rw[←sn]at ST SL
     try refine xz2 (gd hlt) zbw ?_
     refine caM [1,2,3] (ST) ?_
     try refine xz2 (gd hlt) zbw ?_
     refine⟨k+1,⟨by omega,SL.1,SL.2⟩,by omega,To.mk [0,1,2,5] rfl rfl (by decide) ?_ ?_⟩
     ·(try(refine xz2 (gd hlt) zbw ?_;try exact xtI))
     ·(try(refine xz2 (gd hlt) zbw ?_;try exact xtI))
    ·obtain rfl:k=l.length:=by omega
     rw[List.take_length]
     try refine xst ?_
     refine zeo (To.frzN 3 _ _ _ _ _ _ _ rfl) (zh1 rfl (by repeat' (first|exact trivial|exact rfl|omega|refine⟨?_,?_⟩)) (Wk.tup ⟨Wk.agg ⟨Wk.of ?_,Wk.of ?_,trivial⟩,Wk.refl _,trivial⟩))
     ·rfl
     ·show AV.c (.sl 6 (unN 2 3 _ _))=_
      rw[zly]
end Go.Proofs.Ytmjbgbmegbkmhaa
namespace Go.Proofs.Ytmjbgbmegbkmhaa
set_option linter.all false
open Go.RowKit
set_option maxRecDepth 100000
def zbu (n a b:Int):Bool:=decide (a≤n)&&decide (n≤b)
theorem zcz {n a b:Int} : zbu n a b=true↔a≤n∧n≤b:=by unfold zbu;simp
theorem zbo (n a b:Int):Spec Try.prog 24 [I .i64 n,I .i64 a,I .i64 b] [] (B (zbu n a b)) []:=by
 refine spB Try.func24 15 [.tmp 6] Try.results24 ?_
 try refine xst ?_
 exact zh1 rfl trivial (Wk.of (congrArg B (by unfold zbu;first|rfl|simp)))
theorem zrm (n:Nat) (k:Int) (hn:n<4294967296):Spec Try.prog 14 [I .u32 n,I .i64 k] [] (B (znu n k)) [] :=
 zf4 (zld rfl rfl rfl) [.int .u32 n,.int .i64 k] _ rfl fun w=>(zrl n k w hn).mono fun e w' h=>⟨h.1,h.2▸Below.refl _ _⟩
end Go.Proofs.Ytmjbgbmegbkmhaa
namespace Go.Proofs.Ytmjbgbmegbkmhaa
set_option linter.all false
open Go.RowKit
set_option maxRecDepth 100000
set_option maxHeartbeats 1000000
theorem zl6 (v:Vw) (n:Int) (hn:1≤n∧n≤50):Spec Try.prog 11 [vwA v,I .i64 n] [] (.tup [vwA (if v.p<n then ⟨n,v.b,v.v⟩else v),B (decide (v.p<n))]) []:=by
 have S:=zbo n (if 1<v.p then v.p else 1) 1000000
 have e:zbu n (if 1<v.p then v.p else 1) 1000000=decide (v.p≤n):=by
  rw[Bool.eq_iff_iff,zcz,decide_eq_true_eq]
  split<;>omega
 rw[e]at S
 refine spB Try.func11 24 [.cell 4 47,.tmp 5] Try.results11 ?_
 try refine xst ?_
 refine caP (S) ?_
 try refine xst ?_
 refine cI (fun h1 => ?_) fun h1 => ?_
 ·rw[if_pos (by omega),decide_eq_true (by omega)]
  try refine xst ?_
  exact xrz rfl
 ·rw[if_neg (by omega),decide_eq_false (by omega)]
  try refine xst ?_
  exact xrz rfl
theorem zon (v:Vw) (n x:Int) (hn:1≤n∧n≤50):Spec Try.prog 13 [vwA v,I .i64 n,I .i64 x] [] (.tup [vwA (if v.p≤n then ⟨n,n,x⟩else v),B (decide (v.p≤n))]) []:=by
 have S:=zbo n (if 1<v.p then v.p else 1) 1000000
 have e:zbu n (if 1<v.p then v.p else 1) 1000000=decide (v.p≤n):=by
  rw[Bool.eq_iff_iff,zcz,decide_eq_true_eq]
  split<;>omega
 rw[e]at S
 refine spB Try.func13 18 [.cell 6 47,.tmp 7] Try.results13 ?_
 try refine xst ?_
 refine caP (S) ?_
 try refine xst ?_
 refine cI (fun h1 => ?_) fun h1 => ?_
 ·rw[if_pos (by omega),decide_eq_true (by omega)]
  try refine xst ?_
  exact xrz rfl
 ·rw[if_neg (by omega),decide_eq_false (by omega)]
  try refine xst ?_
  exact xrz rfl
def zin (l:List Vw) (i k:Nat):Bool:=decide ((l.getD k default).b≤(l.getD i default).b)&&(decide (i≤k)||decide ((l.getD k default).b<(l.getD i default).b))
def zb0 (l:List Vw) (i j:Nat):Bool:=decide ((l.getD i default).b≠0)&&(List.range j).all (zin l i)
def zeh (l:List Vw) (i:Nat):Bool:=zb0 l i l.length
theorem zhd (l:List Vw) (i j:Nat):zb0 l i (j+1)=(zb0 l i j&&zin l i j):=by
 unfold zb0
 rw[List.range_succ,List.all_append,List.all_cons,List.all_nil,Bool.and_true,Bool.and_assoc]
theorem zmz (l:List Vw) (i:Nat):zb0 l i 0=decide ((l.getD i default).b≠0):=by
 unfold zb0;simp
theorem zlp:∀(l:List Vw) (m:Vw),(zat l m=m∧∀k,k<l.length→(l.getD k default).b≤m.b)∨∃j,j<l.length∧l.getD j default=zat l m∧m.b<(zat l m).b∧(∀k,k<l.length→(l.getD k default).b≤(zat l m).b)∧∀k,k<j→(l.getD k default).b<(zat l m).b
 | [],m => .inl ⟨rfl,fun k h=>by simp at h⟩
 | v::r,m=>by
  rw[zat]
  rcases zlp r (if m.b<v.b then v else m)with ⟨h1,h2⟩|⟨j,h1,h2,h3,h4,h5⟩
  ·rw[h1]
   by_cases h:m.b<v.b
   ·rw[if_pos h]at h1 h2 ⊢
    refine .inr ⟨0,by simp,rfl,h,fun k hk => ?_,fun k hk=>by omega⟩
    cases k with
    | zero=>exact Int.le_refl _
    | succ k=>exact h2 k (by simpa using hk)
   ·rw[if_neg h]at h1 h2 ⊢
    refine .inl ⟨rfl,fun k hk => ?_⟩
    cases k with
    | zero=>show v.b≤m.b;omega
    | succ k=>exact h2 k (by simpa using hk)
  ·generalize zat r (if m.b<v.b then v else m)=Bv at *
   have hm:m.b<Bv.b∧v.b<Bv.b:=by split at h3<;>omega
   refine .inr ⟨j+1,by simp;omega,h2,hm.1,fun k hk => ?_,fun k hk => ?_⟩
   ·cases k with
    | zero=>show v.b≤Bv.b;omega
    | succ k=>exact h4 k (by simpa using hk)
   ·cases k with
    | zero=>exact hm.2
    | succ k=>exact h5 k (by omega)
theorem ze4 {l:List Vw} (h0:0<l.length):∃j,j<l.length∧l.getD j default=zat l (l.getD 0 default)∧(∀k,k<l.length→(l.getD k default).b≤(zat l (l.getD 0 default)).b)∧∀k,k<j→(l.getD k default).b<(zat l (l.getD 0 default)).b:=by
 rcases zlp l (l.getD 0 default)with ⟨h1,h2⟩|⟨j,h1,h2,h3,h4,h5⟩
 ·exact⟨0,h0,h1.symm,fun k hk=>by rw[h1];exact h2 k hk,fun k hk=>by omega⟩
 ·exact⟨j,h1,h2,h4,h5⟩
theorem zgy {l:List Vw} (h0:0<l.length) (x:Int):zax l x=if (zat l (l.getD 0 default)).b=0 then x else (zat l (l.getD 0 default)).v:=by
 cases l with
 | nil=>simp at h0
 | cons a r=>rfl
theorem greatB_iff {l:List Vw} {i:Nat} : zeh l i=true↔(l.getD i default).b≠0∧∀k,k<l.length→(l.getD k default).b≤(l.getD i default).b∧(i≤k∨(l.getD k default).b<(l.getD i default).b):=by
 unfold zeh zb0 zin
 rw[Bool.and_eq_true,decide_eq_true_eq,List.all_eq_true]
 constructor
 ·rintro⟨a,b⟩
  refine⟨a,fun k hk => ?_⟩
  have:=b k (List.mem_range.2 hk)
  simpa using this
 ·rintro⟨a,b⟩
  refine⟨a,fun k hk => ?_⟩
  have:=b k (List.mem_range.1 hk)
  simpa using this
theorem zgr {l:List Vw} {i:Nat} (hi:i<l.length) (h:zeh l i=true) (x:Int):zax l x=(l.getD i default).v:=by
 obtain⟨h1,h2⟩:=greatB_iff.1 h
 obtain⟨j,j1,j2,j3,j4⟩:=ze4 (l:=l) (by omega)
 rw[zgy (by omega)]
 have a1:=h2 j j1
 have a2:=j3 i hi
 rw[j2]at a1
 have hij:i=j:=by
  rcases Nat.lt_trichotomy i j with h|h|h
  ·have:=j4 i h;omega
  ·exact h
  ·omega
 subst hij
 rw[←j2,if_neg h1]
theorem zha {l:List Vw} (h:∀j,j<l.length→zeh l j=false) (x:Int):zax l x=x:=by
 rcases Nat.eq_zero_or_pos l.length with h0|h0
 ·rw[List.eq_nil_of_length_eq_zero h0];rfl
 ·obtain⟨j,j1,j2,j3,j4⟩:=ze4 h0
  rw[zgy h0]
  split
  ·rfl
  ·rename_i hb
   have:zeh l j=true:=greatB_iff.2 ⟨by rw[j2];exact hb,fun k hk=>⟨by rw[j2];exact j3 k hk,by
    rcases Nat.lt_or_ge k j with q|q
    ·right;rw[j2];exact j4 k q
    ·exact .inl q⟩⟩
   rw[h j j1]at this
   exact absurd this (by decide)
theorem zll (l:List Vw) (k j:Nat):(zb0 l k j&&decide ((l.getD j default).b≤(l.getD k default).b)&&(decide ((k:Int)≤j)||decide ((l.getD j default).b<(l.getD k default).b)))=zb0 l k (j+1):=by
 rw[zhd]
 unfold zin
 rw[Bool.and_assoc,show decide ((k:Int)≤j)=decide (k≤j)from decide_eq_decide.2 (by omega)]
theorem zmb (l:List Vw) (x:Int) (hl:l.length≤1000000):Spec Try.prog 12 [.c (.sl 3 (l.map vwP)),I .i64 x] [] (I .i64 (zax l x)) []:=by
 refine spB Try.func12 53 [.tmp 4] Try.results12 ?_
 try refine xst ?_
 refine zdl (fun k:Nat=>⟨[(12,I .i64 k),(11,I .i64 l.length),(10,.c (.sl 3 (l.map vwP))),(1,I .i64 x),(0,.c (.sl 3 (l.map vwP)))],[],0⟩) (fun k:Nat=>k≤l.length∧∀j,j<k→zeh l j=false) (fun k:Nat=>l.length-k) (0) (⟨Nat.zero_le _,fun j h=>by omega⟩) (To.mk [] rfl rfl List.nodup_nil trivial ?_) ?_
 ·simp(etaStruct := .none)only[push_cast,zac,seval]
 rintro k ⟨hk,hno⟩
 try refine xst ?_
 refine ze2 (fun h1 => ?_) (fun h1 => ?_)
 ·(try replace h1:=xhh h1)
  have hlt:k<l.length:=by omega
  have g0:=zmz l k
  try refine xz2 (gd hlt) za2 ?_
  refine zdl (fun j:Nat=>⟨[(22,I .i64 j),(21,I .i64 l.length),(20,.c (.sl 3 (l.map vwP))),(7,B (zb0 l k j)),(6,.ptr 0 0 0),(5,I .i64 k),(12,I .i64 k),(11,I .i64 l.length),(10,.c (.sl 3 (l.map vwP))),(1,I .i64 x),(0,.c (.sl 3 (l.map vwP)))],[(0,.blk 47 [I .i64 (l.getD k default).p,I .i64 (l.getD k default).b,I .i64 (l.getD k default).v])],1⟩) (fun j:Nat=>j≤l.length) (fun j:Nat=>l.length-j) (0) (Nat.zero_le _) (To.mk [0] rfl rfl (by decide) ?_ ?_) ?_
  ·simp(etaStruct := .none)only[push_cast,zac,seval]
  ·simp(etaStruct := .none)only[push_cast,zac,seval,g0,decide_not]
  rintro j hj
  try refine xz2 (gd hlt) za2 ?_
  refine cI (fun h2 => ?_) fun h2 => ?_
  ·have hlj:j<l.length:=by omega
   have ba:=zll l k j
   try refine xz4 (gd hlt) za2 (gd hlj) za2 ?_
   refine⟨j+1,by omega,by omega,To.mk [0] rfl rfl (by decide) ?_ ?_⟩
   ·(try(refine xz4 (gd hlt) za2 (gd hlj) za2 ?_;try exact xtI))
   ·(try(refine xz1 ba ?_;try exact xtI))
  ·have ej:j=l.length:=by omega
   have eg:zb0 l k j=zeh l k:=by rw[ej];rfl
   try refine xz3 (gd hlt) za2 eg ?_
   refine cI (fun h3 => ?_) fun h3 => ?_
   ·have e:=zgr hlt h3 x
    rw[e]
    try refine xz3 (gd hlt) za2 eg ?_
    exact xrz rfl
   ·try refine xz3 (gd hlt) za2 eg ?_
    refine⟨k+1,⟨by omega,fun j hj=>by
 rcases Nat.lt_or_ge j k with h|h
 ·exact hno j h
 ·rw [show j = k by omega]; exact h3⟩, by omega, To.mk [] rfl rfl List.nodup_nil trivial ?_⟩
    ·(try(refine xz3 (gd hlt) za2 eg ?_;try exact xtI))
 ·(try replace h1:=xhh h1)
  have e:=zha (l:=l) (fun j hj=>hno j (by omega)) x
  rw[e]
  try refine xst ?_
  exact xrz rfl
def zcp (n:Int) (l:List Stp):Int:=if ¬(1≤n∧n≤15)then 1 else if 500<l.length then 2 else if l.any (ze5 n)=true then 1 else 0
theorem zqv (n:Int) (x:Stp):(!zbu x.kind 1 3 || !zbu x.who 0 (n-1) || !zbu x.ballot 1 50)=ze5 n x:=by
 unfold ze5 zbu
 rw[Bool.eq_iff_iff]
 simp only[Bool.or_eq_true,Bool.not_eq_true',Bool.and_eq_false_iff,decide_eq_true_eq,decide_eq_false_iff_not]
 omega
theorem zh0 (n:Int) (l:List Stp) (hl:l.length≤9223372036854775807):Spec Try.prog 10 [I .i64 n,.c (.sl 4 (l.map zdo))] [] (I .i64 (zcp n l)) []:=by
 have S:=zbo n 1 15
 obtain⟨E,hE⟩:∃E,E=zcp n l:=⟨_,rfl⟩
 rw[←hE]
 unfold zcp at hE
 have hw:zbu n 1 15=decide (1≤n∧n≤15):=by rw[Bool.eq_iff_iff,zcz,decide_eq_true_eq]
 rw[hw]at S
 refine spB Try.func10 38 [.tmp 4] Try.results10 ?_
 try refine xst ?_
 refine caP (S) ?_
 try refine xst ?_
 refine cI (fun h1 => ?_) fun h1 => ?_
 ·rw[if_pos (by omega)]at hE
  rw[hE]
  try refine xst ?_
  exact xrz rfl
 ·rw[if_neg (by omega)]at hE
  try refine xst ?_
  refine cI (fun h2 => ?_) fun h2 => ?_
  ·rw[if_pos (by omega)]at hE
   rw[hE]
   try refine xst ?_
   exact xrz rfl
  ·rw[if_neg (by omega)]at hE
   try refine xst ?_
   refine zdl (fun k:Nat=>⟨[(15,I .i64 k),(14,I .i64 l.length),(13,.c (.sl 4 (l.map zdo))),(0,I .i64 n)],[],0⟩) (fun k:Nat=>k≤l.length∧∀j,j<k→ze5 n (l.getD j default)=false) (fun k:Nat=>l.length-k) (0) (⟨Nat.zero_le _,fun j h=>by omega⟩) (To.mk [] rfl rfl List.nodup_nil trivial ?_) ?_
   ·simp(etaStruct := .none)only[push_cast,zac,seval]
   rintro k ⟨hk,hno⟩
   try refine xst ?_
   refine ze2 (fun h3 => ?_) (fun h3 => ?_)
   ·(try replace h3:=xhh h3)
    have hlt:k<l.length:=by omega
    have be:=zqv n (l.getD k default)
    try refine xz2 (gd hlt) zbw ?_
    refine caP (zbo (l.getD k default).kind 1 3) ?_
    try refine xz2 (gd hlt) zbw ?_
    refine gcP (fun hcc=>zbo (l.getD k default).who 0 (n-1)) ?_
    try refine xz2 (gd hlt) zbw ?_
    refine gcP (fun hcc=>zbo (l.getD k default).ballot 1 50) ?_
    try refine xz2 (gd hlt) zbw ?_
    (try simp only[be])
    refine cI (fun h4 => ?_) fun h4 => ?_
    ·have hb:ze5 n (l.getD k default)=true:=h4
     have ha:l.any (ze5 n)=true:=List.any_eq_true.2 ⟨_,zdw l k hlt,hb⟩
     rw[if_pos ha]at hE
     rw[hE]
     try refine xz2 (gd hlt) zbw ?_
     exact xrz rfl
    ·have hb:ze5 n (l.getD k default)=false:=h4
     try refine xz2 (gd hlt) zbw ?_
     refine⟨k+1,⟨by omega,fun j hj=>by
 rcases Nat.lt_or_ge j k with h|h
 ·exact hno j h
 ·rw [show j = k by omega]; exact hb⟩, by omega, To.mk [] rfl rfl List.nodup_nil trivial ?_⟩
     ·(try(refine xz2 (gd hlt) zbw ?_;try exact xtI))
   ·(try replace h3:=xhh h3)
    have ha:¬l.any (ze5 n)=true:=fun h=>by
     obtain⟨x,hx,hxb⟩:=List.any_eq_true.1 h
     obtain⟨j,hj,rfl⟩:=List.getElem_of_mem hx
     have:=hno j (by omega)
     rw[zcj _ _ hj,hxb]at this
     exact absurd this (by decide)
    rw[if_neg ha]at hE
    rw[hE]
    try refine xst ?_
    exact xrz rfl
theorem zfy (a b:Vw):(decide (a.p=b.p)&&(decide (a.b=b.b)&&decide (a.v=b.v)))=decide (a=b):=by
 rw[Bool.eq_iff_iff];obtain⟨_,_,_⟩:=a;obtain⟨_,_,_⟩:=b;simp
theorem zob (l m:List Vw) (hl:l.length≤9223372036854775807) (hm:m.length≤9223372036854775807):Spec Try.prog 15 [.c (.sl 3 (l.map vwP)),.c (.sl 3 (m.map vwP))] [] (B (decide (l=m))) []:=by
 refine spB Try.func15 26 [.tmp 4] Try.results15 ?_
 try refine xst ?_
 refine cI (fun h1 => ?_) fun h1 => ?_
 ·have e:l≠m:=by intro e;subst e;simp at h1
  try refine xst ?_
  exact zh1 rfl trivial (Wk.of (by rw[decide_eq_false e];rfl))
 ·try refine xst ?_
  refine zdl (fun k:Nat=>⟨[(13,I .i64 k),(12,I .i64 l.length),(1,.c (.sl 3 (m.map vwP))),(0,.c (.sl 3 (l.map vwP)))],[],0⟩) (fun k:Nat=>k≤l.length∧∀j,j<k→l.getD j default=m.getD j default) (fun k:Nat=>l.length-k) (0) (⟨Nat.zero_le _,fun j h=>by omega⟩) (To.mk [] rfl rfl List.nodup_nil trivial ?_) ?_
  ·simp(etaStruct := .none)only[push_cast,zac,seval]
  rintro k ⟨hk,hn⟩
  try refine xst ?_
  refine cI (fun h2 => ?_) fun h2 => ?_
  ·have hlt:k<l.length:=by omega
   have hlt2:k<m.length:=by omega
   try refine xz4 (gd hlt) (gd hlt2) za2 zfy ?_
   (try(refine⟨by kernel_rfl,?_⟩))
   try refine xz4 (gd hlt) (gd hlt2) za2 zfy ?_
   refine cI (fun h3 => ?_) fun h3 => ?_
   ·have e:l≠m:=by intro e;subst e;simp at h3
    try refine xz4 (gd hlt) (gd hlt2) za2 zfy ?_
    exact zh1 rfl trivial (Wk.of (by rw[decide_eq_false e];rfl))
   ·try refine xz4 (gd hlt) (gd hlt2) za2 zfy ?_
    refine⟨k+1,⟨by omega,fun j hj=>by rcases Nat.lt_or_ge j k with h|h;exact hn j h;rw[show j=k by omega];simpa using h3⟩,by omega,To.mk [] rfl rfl List.nodup_nil trivial ?_⟩
    ·(try(refine xz4 (gd hlt) (gd hlt2) za2 zfy ?_;try exact xtI))
  ·have e:l=m:=by
    refine List.ext_getElem (by omega) fun i i1 i2 => ?_
    have:=hn i (by omega)
    rwa [zcj _ _ i1,zcj _ _ i2]at this
   try refine xst ?_
   exact zh1 rfl trivial (Wk.of (by rw[decide_eq_true e];rfl))
abbrev RnK:=Nat × Rn
def zpv (x:RnK):List PV := [pI x.1,.v (.int .u32 x.2.prom),.sl 3 (zci x.2),pB x.2.asked,pI x.2.value,.v (.int .u32 x.2.acc)]
theorem zga (x:RnK):zpv x = [pI x.1,.v (.int .u32 x.2.prom),.sl 3 (zci x.2),pB x.2.asked,pI x.2.value,.v (.int .u32 x.2.acc)]:=rfl
abbrev zq7 (x:RnK):AV := .agg [I .i64 x.1,I .u32 x.2.prom,.c (.sl 3 (zci x.2)),B x.2.asked,I .i64 x.2.value,I .u32 x.2.acc]
def zlv (x y:RnK):Bool:=decide ((x.1:Int)=(y.1:Int))&&decide ((x.2.prom:Int)=(y.2.prom:Int))&&decide (x.2.heard=y.2.heard)&&decide (x.2.asked=y.2.asked)&&decide (x.2.value=y.2.value)&&decide ((x.2.acc:Int)=(y.2.acc:Int))
theorem zj8 (x:RnK):zlv x x=true:=by unfold zlv;simp
theorem zl8 (x y:RnK) (hl:x.2.heard.length≤9223372036854775807) (hm:y.2.heard.length≤9223372036854775807):Spec Try.prog 17 ([] ++ [zq7 x,zq7 y] ++ []) [] (B (zlv x y)) []:=by
 have E:=zob x.2.heard y.2.heard hl hm
 refine spB Try.func17 45 [.tmp 4] Try.results17 ?_
 try refine xst ?_
 refine gcP (fun hcc=>E) ?_
 try refine xst ?_
 (first|(refine zq8 rfl (Wk.of ?_);(try simp(etaStruct := .none)only[push_cast,zac,seval]);first|done|(simp[zlv, *];done)|(simp_all[zlv];done))|(refine zq8 rfl ?_;(try simp(etaStruct := .none)only[push_cast,zac,seval]);(try simp[zlv, *]);(try exact wkc)))
theorem zj7 (F:FuncId) (p:RnK→RnK→Bool) (l m:List RnK) (hl:l.length≤9223372036854775807) (hm:m.length≤9223372036854775807) (hp:∀x∈l,∀y∈m,Spec Try.prog F ([] ++ [zq7 x,zq7 y] ++ []) [] (B (p x y)) []) :
 Spec Try.prog 16 [.c (.sl 6 (l.map zpv)),.c (.sl 6 (m.map zpv)),.clo (.func F) [] []] [] (B (decide (l.length=m.length)&&(List.range l.length).all fun i=>p (l.getD i default) (m.getD i default))) []:=by
 refine spB Try.func16 32 [.tmp 6] Try.results16 ?_
 try refine xst ?_
 refine cI (fun h1 => ?_) fun h1 => ?_
 ·have e:(decide (l.length=m.length)&&(List.range l.length).all fun i=>p (l.getD i default) (m.getD i default))=false:=by rw[decide_eq_false (by omega)];rfl
  try refine xst ?_
  exact zh1 rfl trivial (Wk.of (by rw[e];rfl))
 ·have h1':l.length=m.length:=by omega
  try refine xst ?_
  refine zdl (fun k:Nat=>⟨[(17,I .i64 k),(16,I .i64 l.length),(15,.c (.sl 6 (l.map zpv))),(2,.clo (.func F) [] []),(1,.c (.sl 6 (m.map zpv)))],[],0⟩) (fun k:Nat=>k≤l.length∧∀j,j<k→p (l.getD j default) (m.getD j default)=true) (fun k:Nat=>l.length-k) (0) (⟨Nat.zero_le _,fun j h=>by omega⟩) (To.mk [] rfl rfl List.nodup_nil trivial ?_) ?_
  ·simp(etaStruct := .none)only[push_cast,zac,seval]
  rintro k ⟨hk,hn⟩
  try refine xst ?_
  refine cI (fun h2 => ?_) fun h2 => ?_
  ·have hlt:k<l.length:=by omega
   have hlt2:k<m.length:=by omega
   try refine xz3 (gd hlt) (gd hlt2) zga ?_
   refine caP (hp (l.getD k default) (by rw[zcj _ _ hlt];exact List.getElem_mem hlt) (m.getD k default) (by rw[zcj _ _ hlt2];exact List.getElem_mem hlt2)) ?_
   try refine xz3 (gd hlt) (gd hlt2) zga ?_
   refine cI (fun h3 => ?_) fun h3 => ?_
   ·have e:(decide (l.length=m.length)&&(List.range l.length).all fun i=>p (l.getD i default) (m.getD i default))=false:=by
     rw[Bool.and_eq_false_iff];right
     rw[List.all_eq_false]
     exact⟨k,by simp;omega,by rw[h3];simp⟩
    try refine xz3 (gd hlt) (gd hlt2) zga ?_
    exact zh1 rfl trivial (Wk.of (by rw[e];rfl))
   ·try refine xz3 (gd hlt) (gd hlt2) zga ?_
    refine⟨k+1,⟨by omega,fun j hj=>by rcases Nat.lt_or_ge j k with h|h;exact hn j h;rw[show j=k by omega];exact h3⟩,by omega,To.mk [] rfl rfl List.nodup_nil trivial ?_⟩
    ·(try(refine xz3 (gd hlt) (gd hlt2) zga ?_;try exact xtI))
  ·have e:(decide (l.length=m.length)&&(List.range l.length).all fun i=>p (l.getD i default) (m.getD i default))=true:=by
    rw[decide_eq_true h1',Bool.true_and,List.all_eq_true]
    intro i hi
    exact hn i (by simp at hi;omega)
   try refine xst ?_
   exact zh1 rfl trivial (Wk.of (by rw[e];rfl))
theorem zrd (c:Cn):((zaq c.told).map fun k=>rnP k (c.all k))=((zaq c.told).map fun k=>((k,c.all k):RnK)).map zpv:=by
 rw[List.map_map];rfl
theorem zfc (c:Cn) (L:CnL c):Spec Try.prog 6 [zrb c,zrb c] [] (B true) []:=by
 have hn:=L.n
 have hl:=zfn c.told
 have E:=zob c.vows c.vows (by omega) (by omega)
 rw[decide_eq_true rfl]at E
 have K:=zj7 17 zlv ((zaq c.told).map fun k=>((k,c.all k):RnK)) ((zaq c.told).map fun k=>((k,c.all k):RnK)) (by rw[List.length_map];omega) (by rw[List.length_map];omega) (fun x hx y hy=>by
  obtain⟨i,_,rfl⟩:=List.mem_map.1 hx
  obtain⟨j,_,rfl⟩:=List.mem_map.1 hy
  have h1:=L.h i
  have h2:=L.h j
  exact zl8 _ _ (by simp only;omega) (by simp only;omega))
 rw[←zrd]at K
 have e:(decide (((zaq c.told).map fun k=>((k,c.all k):RnK)).length=((zaq c.told).map fun k=>((k,c.all k):RnK)).length)&&(List.range ((zaq c.told).map fun k=>((k,c.all k):RnK)).length).all fun i=>zlv (((zaq c.told).map fun k=>((k,c.all k):RnK)).getD i default) (((zaq c.told).map fun k=>((k,c.all k):RnK)).getD i default))=true:=by
  rw[decide_eq_true rfl,Bool.true_and,List.all_eq_true]
  exact fun i _=>zj8 _
 rw[e]at K
 refine spB Try.func6 17 [.tmp 4] Try.results6 ?_
 try refine xst ?_
 refine caP (E) ?_
 try refine xst ?_
 refine gcP (fun hcc=>K) ?_
 try refine xst ?_
 exact xrz rfl
theorem zj0:Spec Try.prog 6 [zn6,zn6] [] (B true) []:=by
 have E:=zob [] [] (by decide) (by decide)
 rw[decide_eq_true rfl]at E
 have K:=zj7 17 zlv [] [] (by decide) (by decide) (fun x hx=>by simp at hx)
 rw[show (decide (([]:List RnK).length=([]:List RnK).length)&&(List.range ([]:List RnK).length).all fun i=>zlv (([]:List RnK).getD i default) (([]:List RnK).getD i default))=true from rfl]at K
 refine spB Try.func6 17 [.tmp 4] Try.results6 ?_
 try refine xst ?_
 refine znc (E) (by exact⟨Wk.nil _,Wk.nil _,trivial⟩) ?_
 try refine xst ?_
 refine znw (fun hcc=>K) (by exact⟨Wk.nil _,Wk.nil _,Wk.refl _,trivial⟩) (by intro hc;(try simp(etaStruct := .none)only[push_cast,zac,seval]);(try simp_all)) ?_
 try refine xst ?_
 exact xrz rfl
theorem zln (n k:Nat):n/2 ^ k % 2=if zbn n k=true then 1 else 0:=by
 have:=Nat.mod_lt (n/2 ^ k) (show 0<2 by decide)
 unfold zbn
 split
 ·rename_i h;simpa using h
 ·rename_i h
  have h:¬n/2 ^ k % 2=1:=by simpa using h
  omega
theorem zp9 (a i:Nat) (h:zbn a i=false):∀k,pcK (a ||| 2 ^ i) k=pcK a k+if i<k then 1 else 0
 | 0=>by simp[pcK]
 | k+1=>by
  have ih:=zp9 a i h k
  simp only[pcK]
  rw[ih,zln,zln,ziv]
  by_cases hk:i=k
  ·subst hk
   rw[h,decide_eq_true rfl,if_neg (Nat.lt_irrefl _),if_pos (Nat.lt_succ_self _)]
   simp
  ·rw[decide_eq_false hk,Bool.or_false]
   by_cases h2:i<k
   ·have e0:(if i<k then 1 else 0:Nat)=1:=if_pos h2
    have e1:(if i<k+1 then 1 else 0:Nat)=1:=if_pos (by omega)
    rw[e0,e1];omega
   ·have e0:(if i<k then 1 else 0:Nat)=0:=if_neg h2
    have e1:(if i<k+1 then 1 else 0:Nat)=0:=if_neg (by omega)
    rw[e0,e1];rfl
theorem zqa (a i:Nat) (h:zbn a i=true):a ||| 2 ^ i=a:=by
 apply Nat.eq_of_testBit_eq
 intro j
 rw[←zdy,←zdy,ziv]
 by_cases hj:i=j
 ·subst hj;rw[h];rfl
 ·rw[decide_eq_false hj,Bool.or_false]
def PcI (c:Cn):Prop:=∀k,(c.all k).heard.length=pcK (c.all k).prom 32
theorem zh7 {n:Nat} {c:Cn} (P:Pax n c) {b i:Nat} (h:(zal c i).p<(b:Int)):zbn (c.all b).prom i=false:=by
 cases hb:zbn (c.all b).prom i with
 | false=>rfl
 | true=>have:=P.p1 b i hb;omega
theorem zot {n:Nat} {c:Cn} (P:Pax n c) (I:PcI c) {x:Stp} (hx:zc1 n x) (hn:n≤15):PcI (za9 c x):=by
 obtain⟨⟨k1,k3⟩,⟨w0,wn⟩,b1,b50⟩:=hx
 have key:∀r:Rn,r.heard.length=pcK r.prom 32→∀k,(zcy c.all x.ballot.toNat r k).heard.length=pcK (zcy c.all x.ballot.toNat r k).prom 32:=fun r hr k=>by
  by_cases hk:k=x.ballot.toNat
  ·subst hk;rw[zau];exact hr
  ·rw[zao _ _ hk];exact I k
 unfold za9
 simp only
 split
 ·rename_i h
  refine key _ ?_
  have hf:=zh7 P (b:=x.ballot.toNat) (i:=x.who.toNat) (by omega)
  simp only
  rw[List.length_append,zp9 _ _ hf 32,if_pos (by omega),I x.ballot.toNat];rfl
 ·split
  ·exact key _ (I x.ballot.toNat)
  ·split
   ·exact key _ (I x.ballot.toNat)
   ·exact I
end Go.Proofs.Ytmjbgbmegbkmhaa
namespace Go.Proofs.Ytmjbgbmegbkmhaa
set_option linter.all false
open Go.RowKit
set_option maxRecDepth 100000
set_option maxHeartbeats 2000000
theorem zd5 (n:Int) (l:List Stp) (hl:l.length≤9223372036854775807) (h:zcp n l≠0):Spec Try.prog 5 [I .i64 n,.c (.sl 4 (l.map zdo))] [] (.tup [zn6,I .i64 (zcp n l)]) []:=by
 have S:=zh0 n l hl
 generalize zcp n l=e at *
 refine spB Try.func5 182 [.cell 4 26,.tmp 5] Try.results5 ?_
 try refine xst ?_
 refine caP (S) ?_
 try refine xst ?_
 refine cI (fun h1 => ?_) fun h1 => ?_
 ·try refine xst ?_
  exact xrz rfl
 ·exact absurd h1 h
def XR (f:Nat→Rn):List (List PV):=(List.range 51).map fun k=>rnU 0 (f k)
def YR (f:Nat→Rn):List (List (List PV)):=(List.range 51).map fun k=>zci (f k)
def TR (t:Nat→Bool):List AV:=(List.range 51).map fun k=>B (t k)
theorem zd9 {α : Type} (f g:Nat → α) (b:Nat) (x : α) (hb:b<51) (hx:g b=x) (h:∀k,k≠b→g k=f k):((List.range 51).map f).set b x=(List.range 51).map g:=by
 apply List.ext_getElem?
 intro j
 rw[List.getElem?_set,List.getElem?_map,List.getElem?_map]
 by_cases hj:b=j
 ·subst hj
  rw[if_pos rfl,if_pos (by simpa using hb),List.getElem?_range hb]
  rw[←hx];rfl
 ·rw[if_neg hj]
  rcases Nat.lt_or_ge j 51 with h51|h51
  ·rw[List.getElem?_range h51]
   simp only[Option.map_some]
   rw[h j (Ne.symm hj)]
  ·rw[List.getElem?_eq_none (by simpa using h51)];rfl
theorem zru (f:Nat→Rn) (b:Nat) (hb:b<51):(XR f).getD b [] = [pI 0,.v (.int .u32 (f b).prom),.undef,pB (f b).asked,pI (f b).value,.v (.int .u32 (f b).acc)]:=by
 unfold XR
 rw[List.getD_eq_getElem?_getD,List.getElem?_map,List.getElem?_range hb];rfl
theorem zrt (f:Nat→Rn) (b:Nat) (hb:b<51):(YR f).getD b []=zci (f b):=by
 unfold YR
 rw[List.getD_eq_getElem?_getD,List.getElem?_map,List.getElem?_range hb];rfl
theorem zqz (f:Nat→Rn) (b:Nat) (hb:b<51) (r:Rn):(XR f).set b (rnU 0 r)=XR (zcy f b r):=zd9 _ _ b _ hb (by rw[zau]) fun k hk=>by rw[zao _ _ hk]
theorem zqy (f:Nat→Rn) (b:Nat) (hb:b<51) (r:Rn):(YR f).set b (zci r)=YR (zcy f b r):=zd9 _ _ b _ hb (by rw[zau]) fun k hk=>by rw[zao _ _ hk]
theorem zq1 (t:Nat→Bool) (b:Nat) (hb:b<51):(TR t).set b (B true)=TR (zbk t b):=zd9 _ _ b _ hb (by unfold zbk;rw[decide_eq_true rfl,Bool.or_true]) fun k hk=>by unfold zbk;rw[decide_eq_false hk,Bool.or_false]
theorem zq0 (f:Nat→Rn):(XR f).length=51:=by simp[XR]
theorem ziz (t:Nat→Bool):(TR t).length=51:=by simp[TR]
theorem zpo {k:Nat} {b:Bool} {X Y:(Exit→St→Prop)→St→Prop} {Q:Exit→St→Prop} {s s':St} (ht:b=false→ToK k s s') (h1:b=true→X Q s) (h2:b=false→Y Q s'):zlr k (.c (.v (.bool b))) X Y Q s:=by
 cases b with
 | true=>exact ze2 h1 fun h=>absurd h (by decide)
 | false=>exact zhk (ht rfl) (fun h=>absurd h (by decide)) h2
theorem zf0 (f:Nat→Rn):unN 2 3 (XR f) (YR f)=(List.range 51).map fun k=>rnP 0 (f k):=by
 unfold unN XR YR
 rw[List.zipWith_map,List.zipWith_self]
 rfl
def FR (f:Nat→Rn):List AV:=((List.range 51).map fun k=>rnP 0 (f k)).flatten.map .c
theorem ziq {α : Type} (sz:Nat):∀(xs:List (List α)) (k:Nat),(∀x∈xs,x.length=sz)→k<xs.length→(xs.flatten.drop (k*sz)).take sz=xs.getD k []
 | [],k,_,h=>by simp at h
 | x::r,0,hs,_=>by
  have h1:=hs x (by simp)
  rw[Nat.zero_mul,List.drop_zero,List.flatten_cons,List.take_append_of_le_length (by omega),List.take_of_length_le (by omega)];rfl
 | x::r,k+1,hs,h=>by
  have h1:=hs x (by simp)
  rw[List.flatten_cons,Nat.add_mul,Nat.one_mul,List.drop_append,List.drop_of_length_le (by omega),List.nil_append,show k*sz+sz-x.length=k*sz by omega]
  exact ziq sz r k (fun y hy=>hs y (by simp[hy])) (by simpa using h)
theorem zry (f:Nat→Rn) (k:Nat) (h:k<51):((FR f).drop (k*6)).take 6 = [.c (pI 0),.c (.v (.int .u32 (f k).prom)),.c (.sl 3 (zci (f k))),.c (pB (f k).asked),.c (pI (f k).value),.c (.v (.int .u32 (f k).acc))]:=by
 unfold FR
 rw[←List.map_drop,←List.map_take,ziq 6 _ k (fun x hx=>by obtain⟨j,_,rfl⟩:=List.mem_map.1 hx;rfl) (by simpa using h)]
 rw[List.getD_eq_getElem?_getD,List.getElem?_map,List.getElem?_range h];rfl
theorem zrv (t:Nat→Bool) (k:Nat) (h:k<51):(TR t)[k]? = some (B (t k)):=by
 unfold TR
 rw[List.getElem?_map,List.getElem?_range h];rfl
def zg6 (c:Cn) (k:Nat):List (List PV):=((List.range k).filter c.told).map fun j=>rnP j (c.all j)
theorem zi2 (c:Cn) (k:Nat):zg6 c (k+1)=zg6 c k++if c.told k=true then [rnP k (c.all k)]else []:=by
 unfold zg6
 rw[List.range_succ,List.filter_append,List.map_append,List.filter_cons]
 split<;>rfl
theorem zj2 (c:Cn) (k:Nat):(zg6 c k).length≤k:=by
 unfold zg6
 rw[List.length_map]
 exact Nat.le_trans (List.length_filter_le _ _) (by simp)
theorem zl4 {α : Type} (l:List α) (i:Nat) (d : α) (h:i<l.length):l.set i (l.getD i d)=l:=by
 apply List.ext_getElem?
 intro j
 rw[List.getElem?_set,List.getD_eq_getElem?_getD]
 by_cases hj:i=j
 ·subst hj
  rw[if_pos rfl,if_pos h,List.getElem?_eq_getElem h];rfl
 ·rw[if_neg hj]
theorem zhp (a i:Nat) (o1:a ||| 2 ^ i=a+2 ^ i) (o2:a+2 ^ i<4294967296):IntKind.u32.wrap ((a:Int)+2 ^ i)=((a ||| 2 ^ i:Nat):Int):=by
 have e:(a:Int)+2 ^ i=((a+2 ^ i:Nat):Int):=by simp
 rw[o1,e]
 exact ze8 _ (by omega) (by omega)
theorem zg2 (f:Nat→Rn):List.map AV.c (List.map (fun k=>rnP 0 (f k)) (List.range 51)).flatten=FR f:=rfl
theorem zq2 (t:Nat→Bool) (k:Nat) (h:k<51):List.take 1 (List.drop k (TR t)) = [B (t k)]:=by
 have e:=zrv t k h
 have hl:k<(TR t).length:=by rw[ziz];exact h
 rw[List.drop_eq_getElem_cons hl,List.take_succ_cons,List.take_zero]
 rw[List.getElem?_eq_getElem hl]at e
 rw[Option.some.inj e]
theorem zn3 (ids:List Nat) (h:Nat→Chunk):∀l:List PV,cvL ids h (l.map .c)=l.map .c
 | []=>rfl
 | a::r=>by
  show cv ids h (.c a)::cvL ids h (r.map .c)=_
  rw[zn3 ids h r];rfl
theorem zje (ids:List Nat) (h:Nat→Chunk) (f:Nat→Rn):cvL ids h (FR f)=FR f:=zn3 ids h _
theorem zcx (ids:List Nat) (h:Nat→Chunk) (t:Nat→Bool):cvL ids h (TR t)=TR t:=by
 unfold TR
 generalize List.range 51=l
 induction l with
 | nil=>rfl
 | cons a r ih =>
  show cv ids h (B (t a))::cvL ids h (r.map fun k=>B (t k))=_
  rw[ih];rfl
theorem zas (x:List AV):WkL x x=True:=eq_true (WkL.refl x)
theorem zl7 (n:Nat) (l:List Stp) (h:1≤n∧n≤15) (h5:l.length≤500) (hb:∀x∈l,zc1 n x):Spec Try.prog 5 [I .i64 n,.c (.sl 4 (l.map zdo))] [] (.tup [zrb (zai (zaj n) l),I .i64 0]) []:=by
 have S:=zh0 n l (by omega)
 have hany:¬l.any (ze5 n)=true:=fun h=>by
  obtain⟨x,hx,hxb⟩:=List.any_eq_true.1 h
  rw[badS_iff.2 (hb x hx)]at hxb;exact absurd hxb (by decide)
 have e0:zcp n l=0:=by
  unfold zcp
  rw[if_neg (by omega),if_neg (by omega),if_neg hany]
 rw[e0]at S
 have zs1:zai (zaj n) []=zaj n:=rfl
 have zs2:(zaj n).vows.map vwP=List.replicate n [pI 0,pI 0,pI 0]:=by
  unfold zaj
  simp only[List.map_replicate];rfl
 refine spB Try.func5 182 [.cell 4 26,.tmp 5] Try.results5 ?_
 (iterate 2((try simp(etaStruct := .none)only[push_cast,seval]);(try(refine xsu ?_;try exact xtI))))
 refine caP (S) ?_
 (iterate 2((try simp(etaStruct := .none)only[push_cast,seval]);(try(refine xsu ?_;try exact xtI))))
 refine cI (fun h1 => ?_) fun h1 => ?_
 ·exact absurd h1 (by decide)
 ·(iterate 2((try simp(etaStruct := .none)only[push_cast,seval]);(try(refine xsu ?_;try exact xtI))))
  refine zdl (fun k:Nat=>⟨[(29,I .i64 k),(28,I .i64 l.length),(27,.c (.sl 4 (l.map zdo))),(9,.ptr 4 0 0),(8,.ptr 3 0 0),(7,.ptr 1 0 0),(4,.ptr 0 0 0),(0,I .i64 n)],[(0,.blk 26 [.c (.v (.slice none 0 0)),.c (.v (.slice none 0 0))]),(1,.blk 26 [.own 2,.c (.v (.slice none 0 0))]),(2,zjn (zai (zaj n) (l.take k))),(3,.nst 43 6 2 47 3 (XR (zai (zaj n) (l.take k)).all) (YR (zai (zaj n) (l.take k)).all) none),(4,.blk 44 (TR (zai (zaj n) (l.take k)).told))],5⟩) (fun k:Nat=>k≤l.length∧CnL (zai (zaj n) (l.take k))∧(∀j,((zai (zaj n) (l.take k)).all j).heard.length≤k)∧Pax n (zai (zaj n) (l.take k))∧PcI (zai (zaj n) (l.take k))) (fun k:Nat=>l.length-k) (0) (⟨Nat.zero_le _,zjm n h.2,fun _=>Nat.le_refl _,zmd n,fun _=>(by decide:0=pcK 0 32)⟩) ((To.arrN 8 3 43 6 2 47 3 51 _ [pI 0,.v (.int .u32 (0:Nat)),.v (.slice none 0 0),pB false,pI 0,.v (.int .u32 (0:Nat))] [pI 0,.v (.int .u32 (0:Nat)),.undef,pB false,pI 0,.v (.int .u32 (0:Nat))] rfl rfl rfl rfl (by decide) rfl (by decide) rfl (fun j hj=>by rcases j with _|_|_|_|_|_|j<;>first|rfl|exact absurd rfl hj)).trans (To.mk [0,2,1,5,4] rfl rfl (by decide) ?_ ?_)) ?_
  ·simp(etaStruct := .none)only[push_cast,zac,seval,List.take_zero]
   refine⟨(by rw[zs1];exact zs2.symm),?_⟩
   repeat' (first|exact rfl|exact trivial|exact fun _ _ _ _ _ h=>h|refine⟨?_,?_⟩)
  ·simp(etaStruct := .none)only[push_cast,zac,seval]
  rintro k ⟨hk,L,hm,P,PI⟩
  (iterate 2((try simp(etaStruct := .none)only[push_cast,seval]);(try(refine xsu ?_;try exact xtI))))
  refine zpo (fun _=>To.frzN 3 43 6 2 47 3 (XR (zai (zaj n) (l.take k)).all) (YR (zai (zaj n) (l.take k)).all) rfl) (fun h2 => ?_) (fun h2 => ?_)
  ·(try replace h2:=xhh h2)
   have hlt:k<l.length:=by omega
   have sn:=zd3 (zaj n) (l.take k) (l.getD k default)
   rw[←zd2 l k hlt]at sn
   have hvl:(zai (zaj n) (l.take k)).vows.length=n:=by rw[zf2];simp[zaj]
   have hx:=hb _ (zdw l k hlt)
   have hxl:zc1 (zai (zaj n) (l.take k)).vows.length (l.getD k default):=by rw[hvl];exact hx
   have SL:=zju L hm (by omega) hxl
   have P2:=zme P hx
   have I2:=zot P PI hx h.2
   rw[←sn]at SL P2 I2
   generalize hC:zai (zaj n) (l.take k)=c at *
   have hgl:=zfo zdo l k hlt
   generalize l.getD k default=x at *
   obtain⟨kind,who,ballot,value⟩:=x
   obtain⟨⟨k1,k3⟩,⟨w0,wn⟩,b1,b50⟩:=hx
   simp only at k1 k3 w0 wn b1 b50
   obtain⟨b,rfl⟩:∃b:Nat,ballot=b:=Int.eq_ofNat_of_zero_le (by omega)
   obtain⟨i,rfl⟩:∃i:Nat,who=i:=Int.eq_ofNat_of_zero_le w0
   have hgl:(l.map zdo).getD k [] = [pI kind,pI i,pI b,pI value]:=hgl
   have hil:i<c.vows.length:=by omega
   have hb51:b<51:=by omega
   have hgv:(c.vows.map vwP).getD i [] = [pI (zal c i).p,pI (zal c i).b,pI (zal c i).v]:=zfo vwP c.vows i hil
   have hvs:(c.vows.map vwP).set i [pI (zal c i).p,pI (zal c i).b,pI (zal c i).v]=c.vows.map vwP:=by
    rw[←hgv];exact zl4 _ i _ (by rw[List.length_map];exact hil)
   have VE:∀v:Vw,(c.vows.map vwP).set i [pI v.p,pI v.b,pI v.v]=(c.vows.set i v).map vwP:=fun v=>(List.map_set (f:=vwP)).symm
   have hap:zci (c.all b) ++ [[pI (zal c i).p,pI (zal c i).b,pI (zal c i).v]]=List.map vwP ((c.all b).heard ++ [zal c i]):=by rw[List.map_append];rfl
   have hble:Nat.ble (b+1) 51=true:=Nat.ble_eq_true_of_le (by omega)
   have hspl:List.take b (TR c.told)++B true::List.drop (b+1) (TR c.told)=TR (zbk c.told b):=by
    rw[←zq1 _ _ hb51,List.set_eq_take_append_cons_drop,if_pos (by rw[ziz];exact hb51)]
   have SX:=zqz c.all b hb51
   have SY:=zqy c.all b hb51
   have pself:zcy c.all b (c.all b)=c.all:=by
    funext k
    by_cases hk:k=b
    ·rw[hk,zau]
    ·rw[zao _ _ hk]
   have SY0:=SY (c.all b)
   rw[pself]at SY0
   have htl:=ziz c.told
   have hxl51:=zq0 c.all
   have hgx:=zru c.all b hb51
   have hgy:=zrt c.all b hb51
   have hgs:∀v,((XR c.all).set b v).getD b []=v:=fun v=>by rw[List.getD_eq_getElem?_getD,List.getElem?_set_self (by rw[hxl51];exact hb51)];rfl
   have t16:Nat.blt 1 6=true:=rfl
   have t26:Nat.blt 2 6=true:=rfl
   have t36:Nat.blt 3 6=true:=rfl
   have t46:Nat.blt 4 6=true:=rfl
   have t56:Nat.blt 5 6=true:=rfl
   have hP:=L.p b
   have hA:=L.a b
   have hH:=L.h b
   have PIb:=PI b
   have hl15:=L.n
   have hsh:=znk i (by omega)
   have hpw:2 ^ i<4294967296:=Nat.lt_of_le_of_lt (zmc i (by omega)).2 (by decide)
   have PR:=zl6 (zal c i) b (by omega)
   have AC:=zon (zal c i) b (c.all b).value (by omega)
   have BO:=zmb (c.all b).heard value (by omega)
   have HA:=zrm (c.all b).acc i hA
   rw[zpg _ i (by omega)]at HA
   (iterate 2((try simp(etaStruct := .none)only[push_cast,seval,Nat.mul_one,hgl,Int.toNat_natCast,htl,hble,hspl,hgv,hgx,hgy,hxl51,t16,t26,t36,t46,t56,hsh,List.set_set,hgs]);(try(refine xsu ?_;try exact xtI))))
   refine zhk ((To.ptrN 12 3 b 0 43 6 2 47 3 (XR c.all) (YR c.all) none rfl rfl).trans (To.open 3 b 43 6 2 47 3 (XR c.all) (YR c.all) rfl (by rw[hxl51];exact hb51))) (fun h3 => ?_) (fun h3 => ?_)
   ·(try replace h3:=xhh h3)
    (iterate 2((try simp(etaStruct := .none)only[push_cast,seval,Nat.mul_one,hgl,Int.toNat_natCast,htl,hble,hspl,hgv,hgx,hgy,hxl51,t16,t26,t36,t46,t56,hsh,List.set_set,hgs]);(try(refine xsu ?_;try exact xtI))))
    refine za1 [some 50,some 51,some 52,some 53,some 54,some 55,some 56,some 57,some 49,some 58,some 59,some 60,none,some 14] rfl ?_
    intro Oq lq Rq hlq hdq hRq
    subst hlq
    iterate 7(refine zaz fun rq hrq => ?_;(iterate 2((try simp(etaStruct := .none)only[push_cast,seval,hdq,id,Nat.mul_one,hgl,Int.toNat_natCast,htl,hble,hspl,hgv,hgx,hgy,hxl51,t16,t26,t36,t46,t56,hsh,List.set_set,hgs]);(try(refine xsu ?_;try exact xtI))));subst hrq)
    refine zaz fun rq hrq => ?_
    (iterate 2((try simp(etaStruct := .none)only[push_cast,seval,hdq,id,Nat.mul_one,hgl,Int.toNat_natCast,htl,hble,hspl,hgv,hgx,hgy,hxl51,t16,t26,t36,t46,t56,hsh,List.set_set,hgs]);(try(refine xsu ?_;try exact xtI))))
    refine caP (PR) ?_
    (iterate 2((try simp(etaStruct := .none)only[push_cast,seval,hdq,id,Nat.mul_one,hgl,Int.toNat_natCast,htl,hble,hspl,hgv,hgx,hgy,hxl51,t16,t26,t36,t46,t56,hsh,List.set_set,hgs]);(try(refine xsu ?_;try exact xtI))))
    subst hrq
    iterate 6(refine zaz fun rq hrq => ?_;(iterate 2((try simp(etaStruct := .none)only[push_cast,seval,hdq,id,Nat.mul_one,hgl,Int.toNat_natCast,htl,hble,hspl,hgv,hgx,hgy,hxl51,t16,t26,t36,t46,t56,hsh,List.set_set,hgs]);(try(refine xsu ?_;try exact xtI))));subst hrq)
    refine zhj ?_
    subst hRq
    clear hdq Oq
    refine zhi (by kernel_rfl) ?_
    (iterate 2((try simp(etaStruct := .none)only[push_cast,seval,Nat.mul_one,hgl,Int.toNat_natCast,htl,hble,hspl,hgv,hgx,hgy,hxl51,t16,t26,t36,t46,t56,hsh,List.set_set,hgs]);(try(refine xsu ?_;try exact xtI))))
    refine cI (fun h4 => ?_) fun h4 => ?_
    ·rw[if_pos h4]
     have hfr:=zh7 P h4
     obtain⟨o1,o2⟩:=znq _ i hP (by omega) hfr
     have hw1:IntKind.u32.wrap (((c.all b).prom:Int)+2 ^ i)=(((c.all b).prom ||| 2 ^ i:Nat):Int):=zhp _ i o1 o2
     (iterate 2((try simp(etaStruct := .none)only[push_cast,seval,Nat.mul_one,hgl,Int.toNat_natCast,htl,hble,hspl,hgv,hgx,hgy,hxl51,t16,t26,t36,t46,t56,hsh,List.set_set,hgs]);(try(refine xsu ?_;try exact xtI))))
     refine za1 [some 62,some 63,some 64,some 65,some 66,some 67,some 68,some 69,some 70,some 71,none] rfl ?_
     intro Oq lq Rq hlq hdq hRq
     subst hlq
     iterate 11(refine zaz fun rq hrq => ?_;(iterate 2((try simp(etaStruct := .none)only[push_cast,seval,hdq,id,Nat.mul_one,hgl,Int.toNat_natCast,htl,hble,hspl,hgv,hgx,hgy,hxl51,t16,t26,t36,t46,t56,hsh,List.set_set,hgs]);(try(refine xsu ?_;try exact xtI))));subst hrq)
     refine zhj ?_
     subst hRq
     clear hdq Oq
     refine zhi (by kernel_rfl) ?_
     (iterate 2((try simp(etaStruct := .none)only[push_cast,seval,Nat.mul_one,hgl,Int.toNat_natCast,htl,hble,hspl,hgv,hgx,hgy,hxl51,t16,t26,t36,t46,t56,hsh,List.set_set,hgs]);(try(refine xsu ?_;try exact xtI))))
     refine za1 [some 72,some 73,some 74,some 75,some 76,some 77,some 78,some 79,some 80,some 81,none] rfl ?_
     intro Oq lq Rq hlq hdq hRq
     subst hlq
     iterate 11(refine zaz fun rq hrq => ?_;(iterate 2((try simp(etaStruct := .none)only[push_cast,seval,hdq,id,Nat.mul_one,hgl,Int.toNat_natCast,htl,hble,hspl,hgv,hgx,hgy,hxl51,t16,t26,t36,t46,t56,hsh,List.set_set,hgs]);(try(refine xsu ?_;try exact xtI))));subst hrq)
     refine zhj ?_
     subst hRq
     clear hdq Oq
     refine zhi (by kernel_rfl) ?_
     (iterate 2((try simp(etaStruct := .none)only[push_cast,seval,Nat.mul_one,hgl,Int.toNat_natCast,htl,hble,hspl,hgv,hgx,hgy,hxl51,t16,t26,t36,t46,t56,hsh,List.set_set,hgs]);(try(refine xsu ?_;try exact xtI))))
     have hc1:=sn.trans (zjw (c:=c) (x:=⟨kind,i,b,value⟩) h3 h4)
     refine⟨k+1,⟨by omega,SL.1,SL.2,P2,I2⟩,by omega,(To.close 3 b 136 43 6 2 47 3 _ _ _ rfl rfl).trans (To.mk [0,1,2,3,4] rfl rfl (by decide) ?_ ?_)⟩
     ·iterate 2(try simp(etaStruct := .none)only[push_cast,zac,seval,hspl,hsh,List.set_set,hgs,hc1,Int.toNat_natCast,hw1,zcx,zas];try refine xsu ?_)
      rw[hap]
      exact⟨VE ⟨b,(zal c i).b,(zal c i).v⟩,SX { c.all b with prom:=(c.all b).prom ||| 2 ^ i,heard:=(c.all b).heard ++ [zal c i] },SY { c.all b with prom:=(c.all b).prom ||| 2 ^ i,heard:=(c.all b).heard ++ [zal c i] }⟩
     ·(iterate 2((try simp(etaStruct := .none)only[push_cast,seval,Nat.mul_one,hgl,Int.toNat_natCast,htl,hble,hspl,hgv,hgx,hgy,hxl51,t16,t26,t36,t46,t56,hsh,List.set_set,hgs]);(try(refine xsu ?_;try exact xtI))))
    ·rw[if_neg (by omega)]
     (iterate 2((try simp(etaStruct := .none)only[push_cast,seval,Nat.mul_one,hgl,Int.toNat_natCast,htl,hble,hspl,hgv,hgx,hgy,hxl51,t16,t26,t36,t46,t56,hsh,List.set_set,hgs]);(try(refine xsu ?_;try exact xtI))))
     have hc1:=sn.trans (zcg (c:=c) (x:=⟨kind,i,b,value⟩) (by simp only[Int.toNat_natCast];omega) (by simp only[Int.toNat_natCast];omega) (by simp only[Int.toNat_natCast];omega))
     refine⟨k+1,⟨by omega,SL.1,SL.2,P2,I2⟩,by omega,(To.close 3 b 7 43 6 2 47 3 _ _ _ rfl rfl).trans (To.mk [0,1,2,3,4] rfl rfl (by decide) ?_ ?_)⟩
     ·(iterate 2((try simp(etaStruct := .none)only[push_cast,zac,seval,hspl,hsh,List.set_set,hgs,hc1,Int.toNat_natCast,hvs,SY0,zcx,zas]);(try(refine xsu ?_;try exact xtI))))
     ·(iterate 2((try simp(etaStruct := .none)only[push_cast,seval,Nat.mul_one,hgl,Int.toNat_natCast,htl,hble,hspl,hgv,hgx,hgy,hxl51,t16,t26,t36,t46,t56,hsh,List.set_set,hgs]);(try(refine xsu ?_;try exact xtI))))
   ·(try replace h3:=xhh h3)
    (iterate 2((try simp(etaStruct := .none)only[push_cast,seval,Nat.mul_one,hgl,Int.toNat_natCast,htl,hble,hspl,hgv,hgx,hgy,hxl51,t16,t26,t36,t46,t56,hsh,List.set_set,hgs]);(try(refine xsu ?_;try exact xtI))))
    refine cI (fun h5 => ?_) fun h5 => ?_
    ·(iterate 2((try simp(etaStruct := .none)only[push_cast,seval,Nat.mul_one,hgl,Int.toNat_natCast,htl,hble,hspl,hgv,hgx,hgy,hxl51,t16,t26,t36,t46,t56,hsh,List.set_set,hgs]);(try(refine xsu ?_;try exact xtI))))
     refine za1 [some 103,some 104,some 105,some 106,some 107,some 108,some 109,some 110,some 111,some 112,some 113,none,some 114,some 115,none] rfl ?_
     intro Oq lq Rq hlq hdq hRq
     subst hlq
     iterate 8(refine zaz fun rq hrq => ?_;(iterate 2((try simp(etaStruct := .none)only[push_cast,seval,hdq,id,Nat.mul_one,hgl,Int.toNat_natCast,htl,hble,hspl,hgv,hgx,hgy,hxl51,t16,t26,t36,t46,t56,hsh,List.set_set,hgs]);(try(refine xsu ?_;try exact xtI))));subst hrq)
     refine zaz fun rq hrq => ?_
     (iterate 2((try simp(etaStruct := .none)only[push_cast,seval,hdq,id,Nat.mul_one,hgl,Int.toNat_natCast,htl,hble,hspl,hgv,hgx,hgy,hxl51,t16,t26,t36,t46,t56,hsh,List.set_set,hgs]);(try(refine xsu ?_;try exact xtI))))
     refine znd (BO) (WkL.refl _) rfl ?_
     (iterate 2((try simp(etaStruct := .none)only[push_cast,seval,hdq,id,Nat.mul_one,hgl,Int.toNat_natCast,htl,hble,hspl,hgv,hgx,hgy,hxl51,t16,t26,t36,t46,t56,hsh,List.set_set,hgs]);(try(refine xsu ?_;try exact xtI))))
     subst hrq
     iterate 6(refine zaz fun rq hrq => ?_;(iterate 2((try simp(etaStruct := .none)only[push_cast,seval,hdq,id,Nat.mul_one,hgl,Int.toNat_natCast,htl,hble,hspl,hgv,hgx,hgy,hxl51,t16,t26,t36,t46,t56,hsh,List.set_set,hgs]);(try(refine xsu ?_;try exact xtI))));subst hrq)
     refine zhj ?_
     subst hRq
     clear hdq Oq
     refine zhi (by kernel_rfl) ?_
     (iterate 2((try simp(etaStruct := .none)only[push_cast,seval,Nat.mul_one,hgl,Int.toNat_natCast,htl,hble,hspl,hgv,hgx,hgy,hxl51,t16,t26,t36,t46,t56,hsh,List.set_set,hgs]);(try(refine xsu ?_;try exact xtI))))
     have hc1:=sn.trans (zjv (c:=c) (x:=⟨kind,i,b,value⟩) h5.1.1 h5.1.2 (by simp only[Int.toNat_natCast];omega))
     refine⟨k+1,⟨by omega,SL.1,SL.2,P2,I2⟩,by omega,(To.close 3 b 7 43 6 2 47 3 _ _ _ rfl rfl).trans (To.mk [0,1,2,3,4] rfl rfl (by decide) ?_ ?_)⟩
     ·iterate 2(try simp(etaStruct := .none)only[push_cast,zac,seval,hspl,hsh,List.set_set,hgs,hc1,Int.toNat_natCast,zcx,zas];try refine xsu ?_)
      exact⟨SX { c.all b with asked:=true,value:=zax (c.all b).heard value },SY { c.all b with asked:=true,value:=zax (c.all b).heard value }⟩
     ·(iterate 2((try simp(etaStruct := .none)only[push_cast,seval,Nat.mul_one,hgl,Int.toNat_natCast,htl,hble,hspl,hgv,hgx,hgy,hxl51,t16,t26,t36,t46,t56,hsh,List.set_set,hgs]);(try(refine xsu ?_;try exact xtI))))
    ·(iterate 2((try simp(etaStruct := .none)only[push_cast,seval,Nat.mul_one,hgl,Int.toNat_natCast,htl,hble,hspl,hgv,hgx,hgy,hxl51,t16,t26,t36,t46,t56,hsh,List.set_set,hgs]);(try(refine xsu ?_;try exact xtI))))
     refine cI (fun h6 => ?_) fun h6 => ?_
     ·(iterate 2((try simp(etaStruct := .none)only[push_cast,seval,Nat.mul_one,hgl,Int.toNat_natCast,htl,hble,hspl,hgv,hgx,hgy,hxl51,t16,t26,t36,t46,t56,hsh,List.set_set,hgs]);(try(refine xsu ?_;try exact xtI))))
      refine za1 [some 127,some 128,some 129,some 130,some 131,some 132,some 133,some 134,some 135,some 136,some 137,some 138,some 126,some 139,some 140,some 141,none,some 14] rfl ?_
      intro Oq lq Rq hlq hdq hRq
      subst hlq
      iterate 11(refine zaz fun rq hrq => ?_;(iterate 2((try simp(etaStruct := .none)only[push_cast,seval,hdq,id,Nat.mul_one,hgl,Int.toNat_natCast,htl,hble,hspl,hgv,hgx,hgy,hxl51,t16,t26,t36,t46,t56,hsh,List.set_set,hgs]);(try(refine xsu ?_;try exact xtI))));subst hrq)
      refine zaz fun rq hrq => ?_
      (iterate 2((try simp(etaStruct := .none)only[push_cast,seval,hdq,id,Nat.mul_one,hgl,Int.toNat_natCast,htl,hble,hspl,hgv,hgx,hgy,hxl51,t16,t26,t36,t46,t56,hsh,List.set_set,hgs]);(try(refine xsu ?_;try exact xtI))))
      refine caP (AC) ?_
      (iterate 2((try simp(etaStruct := .none)only[push_cast,seval,hdq,id,Nat.mul_one,hgl,Int.toNat_natCast,htl,hble,hspl,hgv,hgx,hgy,hxl51,t16,t26,t36,t46,t56,hsh,List.set_set,hgs]);(try(refine xsu ?_;try exact xtI))))
      subst hrq
      iterate 6(refine zaz fun rq hrq => ?_;(iterate 2((try simp(etaStruct := .none)only[push_cast,seval,hdq,id,Nat.mul_one,hgl,Int.toNat_natCast,htl,hble,hspl,hgv,hgx,hgy,hxl51,t16,t26,t36,t46,t56,hsh,List.set_set,hgs]);(try(refine xsu ?_;try exact xtI))));subst hrq)
      refine zhj ?_
      subst hRq
      clear hdq Oq
      refine zhi (by kernel_rfl) ?_
      (iterate 2((try simp(etaStruct := .none)only[push_cast,seval,Nat.mul_one,hgl,Int.toNat_natCast,htl,hble,hspl,hgv,hgx,hgy,hxl51,t16,t26,t36,t46,t56,hsh,List.set_set,hgs]);(try(refine xsu ?_;try exact xtI))))
      refine za1 [some 142,some 143,some 144,some 145,some 146,some 147,some 148,some 149,some 150,some 151,some 152] rfl ?_
      intro Oq lq Rq hlq hdq hRq
      subst hlq
      iterate 8(refine zaz fun rq hrq => ?_;(iterate 2((try simp(etaStruct := .none)only[push_cast,seval,hdq,id,Nat.mul_one,hgl,Int.toNat_natCast,htl,hble,hspl,hgv,hgx,hgy,hxl51,t16,t26,t36,t46,t56,hsh,List.set_set,hgs]);(try(refine xsu ?_;try exact xtI))));subst hrq)
      refine zaz fun rq hrq => ?_
      (iterate 2((try simp(etaStruct := .none)only[push_cast,seval,hdq,id,Nat.mul_one,hgl,Int.toNat_natCast,htl,hble,hspl,hgv,hgx,hgy,hxl51,t16,t26,t36,t46,t56,hsh,List.set_set,hgs]);(try(refine xsu ?_;try exact xtI))))
      refine gcP (fun hcc=>HA) ?_
      (iterate 2((try simp(etaStruct := .none)only[push_cast,seval,hdq,id,Nat.mul_one,hgl,Int.toNat_natCast,htl,hble,hspl,hgv,hgx,hgy,hxl51,t16,t26,t36,t46,t56,hsh,List.set_set,hgs]);(try(refine xsu ?_;try exact xtI))))
      subst hrq
      iterate 2(refine zaz fun rq hrq => ?_;(iterate 2((try simp(etaStruct := .none)only[push_cast,seval,hdq,id,Nat.mul_one,hgl,Int.toNat_natCast,htl,hble,hspl,hgv,hgx,hgy,hxl51,t16,t26,t36,t46,t56,hsh,List.set_set,hgs]);(try(refine xsu ?_;try exact xtI))));subst hrq)
      refine zhj ?_
      subst hRq
      clear hdq Oq
      refine zhi (by kernel_rfl) ?_
      (iterate 2((try simp(etaStruct := .none)only[push_cast,seval,Nat.mul_one,hgl,Int.toNat_natCast,htl,hble,hspl,hgv,hgx,hgy,hxl51,t16,t26,t36,t46,t56,hsh,List.set_set,hgs]);(try(refine xsu ?_;try exact xtI))))
      refine cI (fun h7 => ?_) fun h7 => ?_
      ·rw[if_pos h7.1]
       obtain⟨o1,o2⟩:=znq _ i hA (by omega) h7.2
       have hw2:IntKind.u32.wrap (((c.all b).acc:Int)+2 ^ i)=(((c.all b).acc ||| 2 ^ i:Nat):Int):=zhp _ i o1 o2
       (iterate 2((try simp(etaStruct := .none)only[push_cast,seval,Nat.mul_one,hgl,Int.toNat_natCast,htl,hble,hspl,hgv,hgx,hgy,hxl51,t16,t26,t36,t46,t56,hsh,List.set_set,hgs]);(try(refine xsu ?_;try exact xtI))))
       refine za1 [some 153,some 154,some 155,some 156,some 157,some 158,some 159,some 160,some 161,some 162,none] rfl ?_
       intro Oq lq Rq hlq hdq hRq
       subst hlq
       iterate 11(refine zaz fun rq hrq => ?_;(iterate 2((try simp(etaStruct := .none)only[push_cast,seval,hdq,id,Nat.mul_one,hgl,Int.toNat_natCast,htl,hble,hspl,hgv,hgx,hgy,hxl51,t16,t26,t36,t46,t56,hsh,List.set_set,hgs]);(try(refine xsu ?_;try exact xtI))));subst hrq)
       refine zhj ?_
       subst hRq
       clear hdq Oq
       refine zhi (by kernel_rfl) ?_
       (iterate 2((try simp(etaStruct := .none)only[push_cast,seval,Nat.mul_one,hgl,Int.toNat_natCast,htl,hble,hspl,hgv,hgx,hgy,hxl51,t16,t26,t36,t46,t56,hsh,List.set_set,hgs]);(try(refine xsu ?_;try exact xtI))))
       have hc1:=sn.trans (zg5 (c:=c) (x:=⟨kind,i,b,value⟩) h6.1 h6.2 h7.1)
       refine⟨k+1,⟨by omega,SL.1,SL.2,P2,I2⟩,by omega,(To.close 3 b 7 43 6 2 47 3 _ _ _ rfl rfl).trans (To.mk [0,1,2,3,4] rfl rfl (by decide) ?_ ?_)⟩
       ·iterate 2(try simp(etaStruct := .none)only[push_cast,zac,seval,hspl,hsh,List.set_set,hgs,hc1,Int.toNat_natCast,hw2,zcx,zas];try refine xsu ?_)
        exact⟨VE ⟨b,b,(c.all b).value⟩,SX { c.all b with acc:=(c.all b).acc ||| 2 ^ i },SY { c.all b with acc:=(c.all b).acc ||| 2 ^ i }⟩
       ·(iterate 2((try simp(etaStruct := .none)only[push_cast,seval,Nat.mul_one,hgl,Int.toNat_natCast,htl,hble,hspl,hgv,hgx,hgy,hxl51,t16,t26,t36,t46,t56,hsh,List.set_set,hgs]);(try(refine xsu ?_;try exact xtI))))
      ·have F5:(c.vows.map vwP).set i (vwP (if (zal c i).p≤(b:Int)then ⟨b,b,(c.all b).value⟩else zal c i))=(za9 c ⟨kind,i,b,value⟩).vows.map vwP∧(za9 c ⟨kind,i,b,value⟩).all=c.all∧(za9 c ⟨kind,i,b,value⟩).told=zbk c.told b:=by
        by_cases hp:(zal c i).p≤(b:Int)
        ·have hbt:zbn (c.all b).acc i=true:=by
          cases hq:zbn (c.all b).acc i with
          | true=>rfl
          | false => rcases h7 with h7 | h7
                     ·omega
                     ·rw[hq]at h7;exact absurd h7 (by decide)
         have e:=zg5 (c:=c) (x:=⟨kind,i,b,value⟩) h6.1 h6.2 hp
         simp only[Int.toNat_natCast]at e
         rw[zqa _ _ hbt]at e
         rw[e,if_pos hp]
         exact⟨VE _,pself,rfl⟩
        ·have e:=zcg (c:=c) (x:=⟨kind,i,b,value⟩) (by simp only[Int.toNat_natCast];omega) (by simp only[Int.toNat_natCast];omega) (by simp only[Int.toNat_natCast];omega)
         rw[e,if_neg hp]
         exact⟨hvs,rfl,rfl⟩
       (iterate 2((try simp(etaStruct := .none)only[push_cast,seval,Nat.mul_one,hgl,Int.toNat_natCast,htl,hble,hspl,hgv,hgx,hgy,hxl51,t16,t26,t36,t46,t56,hsh,List.set_set,hgs]);(try(refine xsu ?_;try exact xtI))))
       refine⟨k+1,⟨by omega,SL.1,SL.2,P2,I2⟩,by omega,(To.close 3 b 7 43 6 2 47 3 _ _ _ rfl rfl).trans (To.mk [0,1,2,3,4] rfl rfl (by decide) ?_ ?_)⟩
       ·iterate 2(try simp(etaStruct := .none)only[push_cast,zac,seval,hspl,hsh,List.set_set,hgs,sn,Int.toNat_natCast,SY0,zcx,zas,F5.2];try refine xsu ?_)
        exact F5.1
       ·(iterate 2((try simp(etaStruct := .none)only[push_cast,seval,Nat.mul_one,hgl,Int.toNat_natCast,htl,hble,hspl,hgv,hgx,hgy,hxl51,t16,t26,t36,t46,t56,hsh,List.set_set,hgs]);(try(refine xsu ?_;try exact xtI))))
     ·(iterate 2((try simp(etaStruct := .none)only[push_cast,seval,Nat.mul_one,hgl,Int.toNat_natCast,htl,hble,hspl,hgv,hgx,hgy,hxl51,t16,t26,t36,t46,t56,hsh,List.set_set,hgs]);(try(refine xsu ?_;try exact xtI))))
      have hc1:=sn.trans (zcg (c:=c) (x:=⟨kind,i,b,value⟩) (by simp only[Int.toNat_natCast];omega) (by simp only[Int.toNat_natCast];rintro⟨a0,a1,a2⟩;rw[a0,a1]at h5;simp at h5;omega) (by simp only[Int.toNat_natCast];rintro⟨a0,a1,-⟩;rw[a0,a1]at h6;simp at h6))
      refine⟨k+1,⟨by omega,SL.1,SL.2,P2,I2⟩,by omega,(To.close 3 b 7 43 6 2 47 3 _ _ _ rfl rfl).trans (To.mk [0,1,2,3,4] rfl rfl (by decide) ?_ ?_)⟩
      ·(iterate 2((try simp(etaStruct := .none)only[push_cast,zac,seval,hspl,hsh,List.set_set,hgs,hc1,Int.toNat_natCast,SY0,zcx,zas]);(try(refine xsu ?_;try exact xtI))))
      ·(iterate 2((try simp(etaStruct := .none)only[push_cast,seval,Nat.mul_one,hgl,Int.toNat_natCast,htl,hble,hspl,hgv,hgx,hgy,hxl51,t16,t26,t36,t46,t56,hsh,List.set_set,hgs]);(try(refine xsu ?_;try exact xtI))))
  ·(try replace h2:=xhh h2)
   have t306:Nat.blt 6 306=true:=rfl
   obtain rfl:k=l.length:=by omega
   rw[List.take_length]at *
   generalize zai (zaj n) l=c at *
   (iterate 2((try simp(etaStruct := .none)only[push_cast,seval,zf0,List.length_map,List.length_range,t306,zg2]);(try(refine xsu ?_;try exact xtI))))
   refine zdl (fun j:Nat=>⟨[(165,I .i64 j),(164,.agg (FR c.all)),(9,.ptr 4 0 0),(7,.ptr 1 0 0),(4,.ptr 0 0 0)],[(0,.blk 26 [.c (.v (.slice none 0 0)),.c (.v (.slice none 0 0))]),(1,.blk 26 [.own 2,.own 3]),(2,zjn c),(3,.row 42 6 (zg6 c j)),(4,.blk 44 (TR c.told))],5⟩) (fun j:Nat=>j≤51) (fun j:Nat=>51-j) (0) (Nat.zero_le _) ((To.nilC 1 1 42 6 26 _ rfl rfl).trans (To.mk [0,1,2,5,4] rfl rfl (by decide) ?_ ?_)) ?_
   ·simp(etaStruct := .none)only[push_cast,zac,seval,List.set_cons_succ,List.set_cons_zero,zcx,zas]
    try exact rfl
   ·simp(etaStruct := .none)only[push_cast,zac,seval,zje]
    try exact Wk.refl _
   rintro j hj
   (iterate 2((try simp(etaStruct := .none)only[push_cast,seval,zf0,List.length_map,List.length_range,t306,zg2]);(try(refine xsu ?_;try exact xtI))))
   refine cI (fun h8 => ?_) fun h8 => ?_
   ·have hlt:j<51:=by omega
    have hfr:=zry c.all j hlt
    have htr:=zq2 c.told j hlt
    have rs:=zi2 c j
    have rl:=zj2 c j
    have htl:=ziz c.told
    have hj50:j≤50:=by omega
    (iterate 2((try simp(etaStruct := .none)only[push_cast,seval,zf0,List.length_map,List.length_range,t306,zg2,Int.toNat_natCast,hfr,htr,htl,hj50,Nat.mul_one,zcx,zas,zje]);(try(refine xsu ?_;try exact xtI))))
    refine cI (fun h9 => ?_) fun h9 => ?_
    ·rw[if_pos h9]at rs
     (iterate 2((try simp(etaStruct := .none)only[push_cast,seval,zf0,List.length_map,List.length_range,t306,zg2,Int.toNat_natCast,hfr,htr,htl,hj50,Nat.mul_one,zcx,zas,zje]);(try(refine xsu ?_;try exact xtI))))
     refine⟨j+1,by omega,by omega,To.mk [0,1,2,7,4] rfl rfl (by decide) ?_ ?_⟩
     ·(iterate 2((try simp(etaStruct := .none)only[push_cast,zac,seval,zcx,zas,rs,rnP]);(try(refine xsu ?_;try exact xtI))))
     ·(iterate 2((try simp(etaStruct := .none)only[push_cast,seval,zf0,List.length_map,List.length_range,t306,zg2,Int.toNat_natCast,hfr,htr,htl,hj50,Nat.mul_one,zcx,zas,zje]);(try(refine xsu ?_;try exact xtI))))
    ·rw[if_neg (by rw[h9];decide),List.append_nil]at rs
     (iterate 2((try simp(etaStruct := .none)only[push_cast,seval,zf0,List.length_map,List.length_range,t306,zg2,Int.toNat_natCast,hfr,htr,htl,hj50,Nat.mul_one,zcx,zas,zje]);(try(refine xsu ?_;try exact xtI))))
     refine⟨j+1,by omega,by omega,To.mk [0,1,2,3,4] rfl rfl (by decide) ?_ ?_⟩
     ·(iterate 2((try simp(etaStruct := .none)only[push_cast,zac,seval,zcx,zas,rs,rnP]);(try(refine xsu ?_;try exact xtI))))
     ·(iterate 2((try simp(etaStruct := .none)only[push_cast,seval,zf0,List.length_map,List.length_range,t306,zg2,Int.toNat_natCast,hfr,htr,htl,hj50,Nat.mul_one,zcx,zas,zje]);(try(refine xsu ?_;try exact xtI))))
   ·obtain rfl:j=51:=by omega
    have e51:zg6 c 51=(zaq c.told).map fun k=>rnP k (c.all k):=rfl
    (iterate 2((try simp(etaStruct := .none)only[push_cast,seval,zf0,List.length_map,List.length_range,t306,zg2,e51]);(try(refine xsu ?_;try exact xtI))))
    exact xrz rfl
end Go.Proofs.Ytmjbgbmegbkmhaa
namespace Go.Proofs.Ytmjbgbmegbkmhaa
set_option linter.all false
open Go.RowKit Go.ChangeShapes Go.WideShapes Go.ChangeAt
def RelCs (w:World) (ps:List PV) (cs:List Value):Prop:=∀(j:Nat) p u,ps[j]? = some p→cs[j]? = some u→RelP w (· < w.heap.size) p u
theorem RelCs.nil {w:World} : RelCs w [] []:=fun j p u h=>by simp at h
theorem RelCs.cons {w:World} {p:PV} {u:Value} {ps:List PV} {cs:List Value} (h:RelP w (· < w.heap.size) p u) (h':RelCs w ps cs):RelCs w (p::ps) (u::cs):=by
 intro j q v h1 h2
 cases j with
 | zero=>simp at h1 h2;subst h1 h2;exact h
 | succ j=>exact h' j q v (by simpa using h1) (by simpa using h2)
theorem RelCs.append {w:World} : ∀ {ps qs:List PV} {cs ds:List Value},ps.length=cs.length→RelCs w ps cs→RelCs w qs ds→RelCs w (ps++qs) (cs++ds)
 | [],_,[],_,_,_,h=>h
 | [],_,_::_,_,hl,_,_=>by simp at hl
 | _::_,_,[],_,hl,_,_=>by simp at hl
 | p::ps,qs,c::cs,ds,hl,h,h'=>by
  refine RelCs.cons (h 0 p c rfl rfl) (RelCs.append (by simpa using hl) (fun j q v h1 h2=>h (j+1) q v (by simpa using h1) (by simpa using h2)) h')
def OpA (P:Program) (T sz:Nat) (w:World) {α : Type} (pv : α → List PV) (ok : α → Prop):Prop :=
 ∃(β : Type) (enc : β → List Value) (okb : β → Prop) (f : β → α),Opens P T sz w enc okb∧∀y,okb y→ok (f y)∧(pv (f y)).length=sz∧(enc y).length=sz∧RelCs w (pv (f y)) (enc y)
section
variable {P : Program} {T : Nat} {w : World}
theorem OpA.i64 (h:P.underlying T=some (.int .i64)):OpA P T 1 w zsu zr4 :=
 ⟨_,_,_,id,Opens.i64 h,fun y hy=>⟨hy,rfl,rfl,.cons (zgc rfl) .nil⟩⟩
theorem OpA.u64 (h:P.underlying T=some (.int .u64)):OpA P T 1 w zr5 (fun n=>n<18446744073709551616) :=
 ⟨_,_,_,id,Opens.u64 h,fun y hy=>⟨hy,rfl,rfl,.cons (zgc rfl) .nil⟩⟩
def zr6 (n:Nat):List PV := [.v (.int .u32 n)]
theorem OpA.u32 (h:P.underlying T=some (.int .u32)):OpA P T 1 w zr6 (fun n=>n<4294967296) :=
 ⟨_,_,_,id,Opens.u32 h,fun y hy=>⟨hy,rfl,rfl,.cons (zgc rfl) .nil⟩⟩
theorem OpA.bool (h:P.underlying T=some .bool):OpA P T 1 w zrq (fun _=>True) :=
 ⟨_,_,_,id,Opens.bool h,fun y hy=>⟨hy,rfl,rfl,.cons (zgc rfl) .nil⟩⟩
theorem OpA.str (h:P.underlying T=some .string):OpA P T 1 w zso (fun s=>s.size≤140737488351232) :=
 ⟨_,_,_,id,Opens.str h,fun y hy=>⟨hy,rfl,rfl,.cons (zgc rfl) .nil⟩⟩
theorem OpA.map {sz:Nat} {α β : Type} {pv : α → List PV} {ok : α → Prop} {pv' : β → List PV} {ok' : β → Prop} (h:OpA P T sz w pv ok) (f : α → β) (hf:∀x,pv' (f x)=pv x) (hok:∀x,ok x→ok' (f x)):OpA P T sz w pv' ok':=by
 obtain⟨γ,enc,okb,g,h1,h2⟩:=h
 exact⟨γ,enc,okb,fun y=>f (g y),h1,fun y hy=>by obtain⟨a,b,c,d⟩:=h2 y hy;exact⟨hok _ a,by rw[hf];exact b,c,by rw[hf];exact d⟩⟩
theorem OpA.slice {E sz bts:Nat} {α : Type} {pv : α → List PV} {ok : α → Prop} (hT:P.underlying T=some (.slice E)) (hc:P.cellsOf E=sz) (hsz:0<sz) (hby:P.bytesOf E=bts) (hE:OpA P E sz w pv ok) :
 OpA P T 1 w (fun xs:List α => [.sl sz (xs.map pv)]) (fun xs=>(∀x∈xs,ok x)∧xs.length*bts≤140737488351232∧xs.length≤9223372036854775807):=by
 obtain⟨γ,enc,okb,g,h1,h2⟩:=hE
 refine⟨_,_,_,fun s=>s.xs.map g,Opens.slice hT hc hsz hby h1,fun s hs=>⟨⟨?_,?_,?_⟩,rfl,rfl,?_⟩⟩
 ·intro x hx
  obtain⟨y,hy,rfl⟩:=List.mem_map.1 hx
  exact(h2 y (hs.each y hy).1).1
 ·have:=hs.reach
  have h3:s.xs.length*bts≤s.c*bts:=Nat.mul_le_mul_right _ hs.cap
  simp only[List.length_map];omega
 ·have h3:=hs.cap;have h4:=hs.max;unfold maxLen at h4;simp only[List.length_map];omega
 ·refine .cons ?_ .nil
  have:=zp5 (pv:=fun y=>pv (g y)) hs fun y hy ho=>by
   obtain⟨_,a,b,d⟩:=h2 y ho
   exact⟨a,d⟩
  simpa[List.map_map,Function.comp_def]using this
def OpAF (P:Program) (w:World) (fs:List Field) (o sz:Nat) {α : Type} (pv : α → List PV) (ok : α → Prop):Prop :=
 ∃(β : Type) (enc : β → List Value) (okb : β → Prop) (f : β → α),OpensF P w fs o sz enc okb∧∀y,okb y→ok (f y)∧(pv (f y)).length=sz∧(enc y).length=sz∧RelCs w (pv (f y)) (enc y)
theorem OpAF.nil {o:Nat} : OpAF P w [] o 0 (fun _:Unit => []) (fun _=>True) :=
 ⟨_,_,_,id,OpensF.nil,fun y hy=>⟨trivial,rfl,rfl,.nil⟩⟩
theorem OpAF.cons {f:Field} {fs:List Field} {o n sz:Nat} {α β : Type} {pv : α → List PV} {ok : α → Prop} {pv' : β → List PV} {ok' : β → Prop}
 (ho:f.offset=o) (hn:P.cellsOf f.type=n) (h:OpA P f.type n w pv ok) (h':OpAF P w fs (o+n) sz pv' ok') :
 OpAF P w (f::fs) o (n+sz) (fun x : α × β => pv x.1++pv' x.2) (fun x=>ok x.1∧ok' x.2):=by
 obtain⟨γ,enc,okb,g,h1,h2⟩:=h
 obtain⟨γ',enc',okb',g',h1',h2'⟩:=h'
 refine⟨_,_,_,fun y=>(g y.1,g' y.2),OpensF.cons ho hn h1 h1',fun y hy => ?_⟩
 obtain⟨a,b,c,d⟩:=h2 y.1 hy.1
 obtain⟨a',b',c',d'⟩:=h2' y.2 hy.2
 exact⟨⟨a,a'⟩,by simp[b,b'],by simp[c,c'],.append (by rw[b,c]) d d'⟩
theorem OpA.struct {sz:Nat} {fs:Array Field} {α : Type} {pv : α → List PV} {ok : α → Prop} (hT:P.underlying T=some (.struct fs)) (hc:P.cellsOf T=sz) (h:OpAF P w fs.toList 0 sz pv ok):OpA P T sz w pv ok:=by
 obtain⟨γ,enc,okb,g,h1,h2⟩:=h
 exact⟨γ,enc,okb,g,Opens.struct hT hc h1,h2⟩
theorem OpA.arg {sz:Nat} {α : Type} {pv : α → List PV} {ok : α → Prop} (h:OpA P T sz w pv ok) {H:Type} {eH:TypeId × Value→H} {v:Value} {d:DataW H} {p:List MemPlace}
 (hT:DataW.Trod eH P w 0 (fun _=>true) true T v d p) {ts:List TypeId} {ds:List (DataW H)} (hz:(DataW.weightsEach P ts ds).all (· ≤ reachBytes)=true) (j:Nat) (h1:ts[j]? = some T) (h2:ds[j]? = some d):∃x : α,ok x∧(pv x).length=v.cells.toList.length∧RelCs w (pv x) v.cells.toList:=by
 obtain⟨γ,enc,okb,g,k1,k2⟩:=h
 obtain⟨y,hy,ho⟩:=Opens.arg k1 hT hz j h1 h2
 obtain⟨a,b,c,e⟩:=k2 y ho
 exact⟨g y,a,by rw[hy,b,c],by rw[hy];exact e⟩
theorem zka {p:PV} {v:Value} (hv:v.cells = #[v]) (hr:RelCs w [p] v.cells.toList):RelA (· < 0) w (· < w.heap.size) (fun _=>none) (.c p) v :=
 zp8 (hr 0 p v rfl (by rw[hv];rfl))
theorem zkh {base e:Nat} {v:Value} (ht:P.underlying T=some (.slice e)) (h:Value.okWide P w .any base T v):v.cells = #[v]:=by obtain⟨a,l,c,rfl⟩:=okWide_slice ht h;rfl
theorem zo1 {base:Nat} {k:IntKind} {v:Value} (ht:P.underlying T=some (.int k)) (h:Value.okWide P w .any base T v):v.cells = #[v]:=by obtain⟨n,rfl⟩:=okWide_int ht h;rfl
end
end Go.Proofs.Ytmjbgbmegbkmhaa
