/- FieldSays, in its second form, its card tied: whatever field, text and cell are handed in (together of bulk at most 1048576), all calls answer what the document says. -/
import Derived.Test.YthlcafpcndagcaaDoorFSa4
import Derived.Test.YthlcafpcndagcaaDoorRows
import Derived.Deep.CondSized
import Derived.Test.YthlcafpcndagcaaDoorChecked
import Derived.Test.YthlcafpcndagcaaDoorCards
import Derived.Test.YthlcafpcndagcaaDoorTie
import Derived.Deep.DeepHandedRow
import Derived.Lib.LaidTab
namespace Go.Proofs.YthlcafpcndagcaaDoor
set_option linter.all false
open Go.RowKit Go.ChangeShapes Go.WideShapes Go.ChangeAt
theorem zly {H:Type} {d:DataW H} {l:List (DataW H)} (h:d∈l):Rows.uptoBulk d≤Rows.uptoBulkAll l:=by
 induction l with
 | nil=>cases h
 | cons x r ih =>
  simp only[Rows.uptoBulkAll]
  cases List.mem_cons.1 h with
  | inl e=>subst e;omega
  | inr e=>have:=ih e;omega
theorem zkf {P:Program} {w:World} {H:Type} {eH:TypeId × Value→H} {T:TypeId} {s:ByteArray} {d:DataW H} {p:List MemPlace} {l:List (DataW H)}
 (h:DataW.Trod eH P w 0 (fun _=>true) true T (.string s) d p) (hT:P.underlying T=some .string) (hk:Rows.uptoSmall H l=true) (hd:d∈l):s.size≤1048576:=by
 obtain⟨fuel,hf⟩:=h
 obtain⟨s',hs',hd',_⟩:=DataW.trod_string hT hf
 simp only[Prod.mk.injEq]at hd'
 obtain⟨rfl,_⟩:=hd'
 have hb:=zly hd
 have hk':=of_decide_eq_true hk
 simp only[Value.cells,List.cons.injEq,Value.string.injEq,and_true]at hs'
 subst hs'
 have e:s.data.toList.length=s.size:=Array.length_toList
 simp only[Rows.uptoBulk]at hb
 omega
end Go.Proofs.YthlcafpcndagcaaDoor
namespace Go.Proofs.YthlcafpcndagcaaDoor
set_option linter.all false
open Go.RowKit
set_option maxRecDepth 100000
theorem zm1 {α : Type} (p : α → Bool) (l:List α):decide (0≤zou p l)=l.any p:=by
 unfold zou
 cases h:l.findIdx? p with
 | none =>
  have:=List.findIdx?_eq_none_iff.1 h
  simp only[show ¬(0:Int) ≤ -1 by omega,decide_false]
  symm;rw[List.any_eq_false];intro x hx;simp[this x hx]
 | some i =>
  obtain⟨hi,h1,_⟩:=List.findIdx?_eq_some_iff_getElem.1 h
  simp only[Int.natCast_nonneg,decide_true]
  symm;rw[List.any_eq_true];exact⟨_,List.getElem_mem hi,h1⟩
theorem zp5 (F:FuncId) (a b:List AV) (l:List Int) (p:Int→Bool) (hl:l.length≤9223372036854775807) (hp:∀n∈l,Spec Tryd.prog F (a ++ [I .i64 n]++b) [] (B (p n)) []) (ha:∀h,cvL [] h a=a) (hb:∀h,cvL [] h b=b) :
 Spec Tryd.prog 30 [.c (.sl 1 (l.map zav)),.clo (.func F) a b] [] (I .i64 (zou p l)) []:=by
 refine spB Tryd.func30 19 [.tmp 4] Tryd.results30 ?_
 simp(etaStruct := .none)only[push_cast,zab,seval]
 refine zcb (fun k:Nat=>⟨[(8,I .i64 k),(7,I .i64 l.length),(0,.c (.sl 1 (l.map zav))),(1,.clo (.func F) a b)],[],0⟩) (fun k=>k≤l.length∧∀j (hj:j<l.length),j<k→p l[j]=false) (fun k=>l.length-k) 0 ⟨Nat.zero_le _,fun j _ h=>by omega⟩ (To.mk [] rfl rfl List.nodup_nil trivial ?_) ?_
 ·simp(etaStruct := .none)only[push_cast,zab,seval,ha,hb]
 ·rintro k ⟨hk,hn⟩
  simp(etaStruct := .none)only[push_cast,zab,seval]
  refine zhg (fun h => ?_) (fun h => ?_)
  ·have hlt:k<l.length:=by simpa using h
   simp(etaStruct := .none)only[push_cast,zab,seval,zm5 _ _ _ hlt,zav]
   repeat with_reducible refine obA ?_
   refine zne (hp _ (List.getElem_mem hlt)) (by simp only[zfe,ha,hb,cvL,cv];exact WkL.refl _) ?_
   simp(etaStruct := .none)only[push_cast,zab,seval]
   refine zhg (fun h => ?_) (fun h => ?_)
   ·simp(etaStruct := .none)only[push_cast,zab,seval]
    exact zib rfl trivial (Wk.of (by rw[zm0 p l k hlt h hn];rfl))
   ·simp(etaStruct := .none)only[push_cast,zab,seval]
    refine⟨k+1,⟨by omega,fun j hj hjk => ?_⟩,by omega,To.mk [] rfl rfl List.nodup_nil trivial ?_⟩
    ·by_cases e:j=k
     ·subst e;exact h
     ·exact hn j hj (by omega)
    ·simp(etaStruct := .none)only[push_cast,zab,seval,ha,hb]
     simp(disch:=omega)only[zar,zap,tdv,tmd]
  ·have hge:k=l.length:=by simp at h;omega
   subst hge
   simp(etaStruct := .none)only[push_cast,zab,seval]
   exact zib rfl trivial (Wk.of (by rw[zk8 p l (fun j hj=>hn j hj hj)];rfl))
theorem zox (F:FuncId) (a b:List AV) (l:List Int) (p:Int→Bool) (hl:l.length≤9223372036854775807) (hp:∀n∈l,Spec Tryd.prog F (a ++ [I .i64 n]++b) [] (B (p n)) []) (ha:∀h,cvL [] h a=a) (hb:∀h,cvL [] h b=b) :
 Spec Tryd.prog 21 [.c (.sl 1 (l.map zav)),.clo (.func F) a b] [] (B (l.any p)) []:=by
 refine spB Tryd.func21 9 [.tmp 4] Tryd.results21 ?_
 simp(etaStruct := .none)only[push_cast,zab,seval]
 refine zne (zp5 F a b l p hl hp ha hb) (by simp only[ha,hb,cvL,cv];exact WkL.refl _) ?_
 simp(etaStruct := .none)only[push_cast,zab,seval]
 exact zib rfl trivial (Wk.of (by rw[zm1];rfl))
def zat (n a b:Int):Bool:=decide (a≤n)&&decide (n≤b)
theorem within_iff {n a b:Int} : zat n a b=true↔a≤n∧n≤b:=by unfold zat;simp
theorem within_f {n a b:Int} : zat n a b=false↔¬(a≤n∧n≤b):=by unfold zat;simp
theorem zax (n a b:Int):Spec Tryd.prog 19 [I .i64 n,I .i64 a,I .i64 b] [] (B (zat n a b)) []:=by
 refine spB Tryd.func19 15 [.tmp 6] Tryd.results19 ?_
 try refine xst ?_
 exact zib rfl trivial (Wk.of (congrArg B (by unfold zat;first|rfl|simp)))
def zbc (f:Fld):Bool := !zat f.w 1 40 || !zat f.h 1 40
def zas (f:Fld):Bool := !decide ((f.p.length:Int)=f.w*f.h)||f.p.any (fun p=>decide (p<0)||decide (4≤p))
def zbj (f:Fld):Int:=if zbc f then 1 else if zas f then 4 else 0
theorem za8 {f:Fld} (h:zbj f=0):(1≤f.w∧f.w≤40)∧(1≤f.h∧f.h≤40)∧(f.p.length:Int)=f.w*f.h∧∀p∈f.p,0≤p∧p<4:=by
 unfold zbj at h
 split at h
 ·simp at h
 ·rename_i h1
  split at h
  ·simp at h
  ·rename_i h2
   simp only[zbc,Bool.or_eq_true,Bool.not_eq_true',not_or,Bool.not_eq_false,within_iff]at h1
   simp only[zas,Bool.or_eq_true,Bool.not_eq_true',decide_eq_false_iff_not,not_or,Decidable.not_not,List.any_eq_true,not_exists,not_and,decide_eq_true_eq]at h2
   exact⟨h1.1,h1.2,h2.1,fun p hp=>by have:=h2.2 p hp;omega⟩
theorem znm (n:Int):Spec Tryd.prog 20 [I .i64 n] [] (B (zat n 1 40)) []:=by
 refine spB Tryd.func20 9 [.tmp 2] Tryd.results20 ?_
 try refine xst ?_
 exact zib rfl trivial (Wk.of (congrArg B (by unfold zat;first|rfl|simp)))
theorem zqc (n:Int):Spec Tryd.prog 22 ([] ++ [I .i64 n] ++ []) [] (B (decide (n<0)||decide (4≤n))) []:=by
 refine spB Tryd.func22 9 [.tmp 2] Tryd.results22 ?_
 try refine xst ?_
 exact zib rfl trivial (Wk.refl _)
theorem zbs (f:Fld) (hl:f.p.length≤9223372036854775807):Spec Tryd.prog 11 [zdt f] [] (I .i64 (zbj f)) []:=by
 refine spB Tryd.func11 27 [.tmp 2] Tryd.results11 ?_
 try refine xst ?_
 refine zne (znm f.w) (WkL.refl _) ?_
 try refine xst ?_
 refine zlh (fun hc=>znm f.h) (WkL.refl _) (by intro hc;(try simp(etaStruct := .none)only[push_cast,zab,seval]);(try simp_all)) ?_
 try refine xst ?_
 refine zhg (fun h1 => ?_) (fun h1 => ?_)
 ·try refine xst ?_
  (first|(refine ze2 rfl (Wk.of ?_);(try simp(etaStruct := .none)only[push_cast,zab,seval]);first|done|(simp[zbj,zbc,zas, *];done)|(simp_all[zbj,zbc,zas];done))|(refine ze2 rfl ?_;(try simp(etaStruct := .none)only[push_cast,zab,seval]);(try simp[zbj,zbc,zas, *]);(try exact wkc)))
 ·have hw:zat f.w 1 40=true∧zat f.h 1 40=true:=by simpa using h1
  obtain⟨h3,h4⟩:=hw
  rw[within_iff]at h3 h4
  have hm1:0≤f.w*f.h:=Int.mul_nonneg (by omega) (by omega)
  have hm2:f.w*f.h≤40*40:=Int.mul_le_mul h3.2 h4.2 (by omega) (by omega)
  try refine xst ?_
  refine zlh (fun hc=>zox _ [] [] f.p (fun p=>decide (p<0)||decide (4≤p)) hl (fun n _=>zqc n) (fun _=>rfl) (fun _=>rfl)) (WkL.refl _) (by intro hc;(try simp(etaStruct := .none)only[push_cast,zab,seval]);(try simp_all)) ?_
  try refine xst ?_
  refine zhg (fun h2 => ?_) (fun h2 => ?_)
  ·try refine xst ?_
   (first|(refine ze2 rfl (Wk.of ?_);(try simp(etaStruct := .none)only[push_cast,zab,seval]);first|done|(simp[zbj,zbc,zas, *];done)|(simp_all[zbj,zbc,zas];done))|(refine ze2 rfl ?_;(try simp(etaStruct := .none)only[push_cast,zab,seval]);(try simp[zbj,zbc,zas, *]);(try exact wkc)))
  ·try refine xst ?_
   (first|(refine ze2 rfl (Wk.of ?_);(try simp(etaStruct := .none)only[push_cast,zab,seval]);first|done|(simp[zbj,zbc,zas, *];done)|(simp_all[zbj,zbc,zas];done))|(refine ze2 rfl ?_;(try simp(etaStruct := .none)only[push_cast,zab,seval]);(try simp[zbj,zbc,zas, *]);(try exact wkc)))
def inF (f:Fld) (c:Cel):Bool:=zat c.x 0 (f.w-1)&&zat c.y 0 (f.h-1)
theorem inF_iff {f:Fld} {c:Cel} : inF f c=true↔(0≤c.x∧c.x<f.w)∧(0≤c.y∧c.y<f.h):=by
 unfold inF;rw[Bool.and_eq_true,within_iff,within_iff];omega
theorem inF_f {f:Fld} {c:Cel} : inF f c=false↔¬((0≤c.x∧c.x<f.w)∧(0≤c.y∧c.y<f.h)):=by
 rw[←inF_iff,Bool.not_eq_true]
def zaz (f:Fld) (c:Cel):Int:=f.p.getD (c.y*f.w+c.x).toNat default
theorem zfr {f:Fld} {c:Cel} (h:zbj f=0) (hc:inF f c=true):0≤c.y*f.w∧c.y*f.w≤1600∧0≤c.y*f.w+c.x∧c.y*f.w+c.x<f.p.length∧f.p.length≤1600:=by
 obtain⟨h1,h2,h3,_⟩:=za8 h
 obtain⟨h4,h5⟩:=inF_iff.1 hc
 have a1:0≤c.y*f.w:=Int.mul_nonneg (by omega) (by omega)
 have a2:c.y*f.w≤(f.h-1)*f.w:=Int.mul_le_mul_of_nonneg_right (by omega) (by omega)
 have a3:(f.h-1)*f.w=f.w*f.h-f.w:=by rw[Int.sub_mul,Int.mul_comm f.h,Int.one_mul]
 have a4:f.w*f.h≤40*40:=Int.mul_le_mul h1.2 h2.2 (by omega) (by omega)
 omega
def atV (f:Fld) (c:Cel):Int × Int:=if zbj f≠0 then (0,zbj f)else if inF f c then (zaz f c,0)else (0,7)
theorem zq6 (f:Fld) (c:Cel) (hl:f.p.length≤9223372036854775807):Spec Tryd.prog 8 [zdt f,znz c] [] (.tup [I .i64 (atV f c).1,I .i64 (atV f c).2]) []:=by
 refine spB Tryd.func8 46 [.tmp 4,.tmp 5] Tryd.results8 ?_
 try refine xst ?_
 refine caP (zbs f hl) ?_
 try refine xst ?_
 refine cI (fun h1 => ?_) fun h1 => ?_
 ·try refine xst ?_
  (first|(refine ze2 rfl (Wk.of ?_);(try simp(etaStruct := .none)only[push_cast,zab,seval]);first|done|(simp[atV,zaz, *];done)|(simp_all[atV,zaz];done))|(refine ze2 rfl ?_;(try simp(etaStruct := .none)only[push_cast,zab,seval]);(try simp[atV,zaz, *]);(try exact wkc)))
 ·obtain⟨e1,e2,e3,e4⟩:=za8 h1
  try refine xst ?_
  refine cI (fun h2 => ?_) fun h2 => ?_
  ·have hc:inF f c=false:=inF_f.2 (by omega)
   try refine xst ?_
   (first|(refine ze2 rfl (Wk.of ?_);(try simp(etaStruct := .none)only[push_cast,zab,seval]);first|done|(simp[atV,zaz, *];done)|(simp_all[atV,zaz];done))|(refine ze2 rfl ?_;(try simp(etaStruct := .none)only[push_cast,zab,seval]);(try simp[atV,zaz, *]);(try exact wkc)))
  ·have hc:inF f c=true:=inF_iff.2 (by omega)
   obtain⟨i1,i2,i3,i4,i5⟩:=zfr h1 hc
   try refine xz2 (gd (show (c.y*f.w+c.x).toNat<f.p.length by omega)) zeq ?_
   (first|(refine ze2 rfl (Wk.of ?_);(try simp(etaStruct := .none)only[push_cast,zab,seval]);first|done|(simp[atV,zaz, *];done)|(simp_all[atV,zaz];done))|(refine ze2 rfl ?_;(try simp(etaStruct := .none)only[push_cast,zab,seval]);(try simp[atV,zaz, *]);(try exact wkc)))
theorem zlj {f:Fld} (h1:zbc f=false) {i:Nat} (hi:i<f.p.length) (h:zat (f.p.getD i default) 0 3=false):zbj f=4:=by
 have:zas f=true:=by
  unfold zas
  rw[Bool.or_eq_true]
  refine .inr (List.any_eq_true.2 ⟨_,List.getElem_mem hi,?_⟩)
  rw[zcx _ _ hi,within_f]at h
  simp;omega
 unfold zbj;rw[h1,this];rfl
theorem zg9 {f:Fld} (h1:zbc f=false) (h2:(f.p.length:Int)=f.w*f.h) (h:∀j,j<f.p.length→zat (f.p.getD j default) 0 3=true):zbj f=0:=by
 have:zas f=false:=by
  unfold zas
  rw[Bool.or_eq_false_iff,List.any_eq_false]
  refine⟨by simp[h2],fun p hp => ?_⟩
  obtain⟨i,hi,rfl⟩:=List.getElem_of_mem hp
  have:=h i hi
  rw[zcx _ _ hi,within_iff]at this
  simp;omega
 unfold zbj;rw[h1,this];rfl
theorem zc8 (f:Fld) (hl:f.p.length≤9223372036854775807):Spec Tryd.prog 10 [zdt f] [] (I .i64 (zbj f)) []:=by
 refine spB Tryd.func10 35 [.tmp 2] Tryd.results10 ?_
 try refine xst ?_
 refine caP (zax f.w 1 40) ?_
 try refine xst ?_
 refine gcP (fun hcc=>zax f.h 1 40) ?_
 try refine xst ?_
 refine cI (fun h1 => ?_) fun h1 => ?_
 ·have hb:zbc f=true:=by unfold zbc;simpa using h1
  try refine xst ?_
  (first|(refine ze2 rfl (Wk.of ?_);(try simp(etaStruct := .none)only[push_cast,zab,seval]);first|done|(simp[zbj,zas, *];done)|(simp_all[zbj,zas];done))|(refine ze2 rfl ?_;(try simp(etaStruct := .none)only[push_cast,zab,seval]);(try simp[zbj,zas, *]);(try exact wkc)))
 ·have hb:zbc f=false:=by unfold zbc;simpa using h1
  have hw:zat f.w 1 40=true∧zat f.h 1 40=true:=by simpa using h1
  obtain⟨h3,h4⟩:=hw
  rw[within_iff]at h3 h4
  have hm1:0≤f.w*f.h:=Int.mul_nonneg (by omega) (by omega)
  have hm2:f.w*f.h≤40*40:=Int.mul_le_mul h3.2 h4.2 (by omega) (by omega)
  try refine xst ?_
  refine cI (fun h2 => ?_) fun h2 => ?_
  ·try refine xst ?_
   (first|(refine ze2 rfl (Wk.of ?_);(try simp(etaStruct := .none)only[push_cast,zab,seval]);first|done|(simp[zbj,zas, *];done)|(simp_all[zbj,zas];done))|(refine ze2 rfl ?_;(try simp(etaStruct := .none)only[push_cast,zab,seval]);(try simp[zbj,zas, *]);(try exact wkc)))
  ·try refine xst ?_
   refine zcb (fun k:Nat=>⟨[(27,I .i64 k),(26,I .i64 f.p.length),(25,.c (.sl 1 (f.p.map zav)))],[],0⟩) (fun k:Nat=>k≤f.p.length∧∀j,j<k→zat (f.p.getD j default) 0 3=true) (fun k:Nat=>f.p.length-k) (0) (⟨Nat.zero_le _,fun j h=>by omega⟩) (To.mk [] rfl rfl List.nodup_nil trivial ?_) ?_
   ·simp(etaStruct := .none)only[push_cast,zab,seval]
   rintro k ⟨hk,hn⟩
   try refine xst ?_
   refine cI (fun h3 => ?_) fun h3 => ?_
   ·have hlt:k<f.p.length:=by omega
    try refine xz2 (gd hlt) zeq ?_
    refine caP (zax (f.p.getD k default) 0 3) ?_
    try refine xz2 (gd hlt) zeq ?_
    refine cI (fun h4 => ?_) fun h4 => ?_
    ·try refine xz2 (gd hlt) zeq ?_
     exact zib rfl trivial (Wk.of (by rw[zlj hb hlt (by simpa using h4)];rfl))
    ·try refine xz2 (gd hlt) zeq ?_
     refine⟨k+1,⟨by omega,fun j hj=>by rcases Nat.lt_or_ge j k with h|h;exact hn j h;rw[show j=k by omega];simpa using h4⟩,by omega,To.mk [] rfl rfl List.nodup_nil trivial ?_⟩
     ·(try(refine xz2 (gd hlt) zeq ?_;try exact xtI))
   ·try refine xst ?_
    exact zib rfl trivial (Wk.of (by rw[zg9 hb (by omega) (fun j hj=>hn j (by omega))];rfl))
theorem zrc (f:Fld) (c:Cel) (hw:0≤f.w∧f.w≤1000000) (hh:0≤f.h∧f.h≤1000000):Spec Tryd.prog 13 [zdt f,znz c] [] (B (inF f c)) []:=by
 refine spB Tryd.func13 19 [.tmp 4] Tryd.results13 ?_
 try refine xst ?_
 refine caP (zax c.x 0 (f.w-1)) ?_
 try refine xst ?_
 refine gcP (fun hcc=>zax c.y 0 (f.h-1)) ?_
 try refine xst ?_
 (first|(refine ze2 rfl (Wk.of ?_);(try simp(etaStruct := .none)only[push_cast,zab,seval]);first|done|(simp[inF, *];done)|(simp_all[inF];done))|(refine ze2 rfl ?_;(try simp(etaStruct := .none)only[push_cast,zab,seval]);(try simp[inF, *]);(try exact wkc)))
theorem zfq (f:Fld) (c:Cel) (h:zbj f=0) (hc:inF f c=true):Spec Tryd.prog 14 [zdt f,znz c] [] (I .i64 (zaz f c)) []:=by
 obtain⟨i1,i2,i3,i4,i5⟩:=zfr h hc
 have j1:=inF_iff.1 hc
 obtain⟨e1,e2,e3,e4⟩:=za8 h
 refine spB Tryd.func14 17 [.tmp 4] Tryd.results14 ?_
 try refine xz2 (gd (show (c.y*f.w+c.x).toNat<f.p.length by omega)) zeq ?_
 (first|(refine ze2 rfl (Wk.of ?_);(try simp(etaStruct := .none)only[push_cast,zab,seval]);first|done|(simp[zaz, *];done)|(simp_all[zaz];done))|(refine ze2 rfl ?_;(try simp(etaStruct := .none)only[push_cast,zab,seval]);(try simp[zaz, *]);(try exact wkc)))
theorem zp6 (l m:List Int) (hl:l.length≤9223372036854775807) (hm:m.length≤9223372036854775807):Spec Tryd.prog 23 [.c (.sl 1 (l.map zav)),.c (.sl 1 (m.map zav))] [] (B (decide (l=m))) []:=by
 refine spB Tryd.func23 26 [.tmp 4] Tryd.results23 ?_
 try refine xst ?_
 refine cI (fun h1 => ?_) fun h1 => ?_
 ·have e:l≠m:=by intro e;subst e;simp at h1
  try refine xst ?_
  exact zib rfl trivial (Wk.of (by rw[decide_eq_false e];rfl))
 ·try refine xst ?_
  refine zcb (fun k:Nat=>⟨[(13,I .i64 k),(12,I .i64 l.length),(1,.c (.sl 1 (m.map zav))),(0,.c (.sl 1 (l.map zav)))],[],0⟩) (fun k:Nat=>k≤l.length∧∀j,j<k→l.getD j default=m.getD j default) (fun k:Nat=>l.length-k) (0) (⟨Nat.zero_le _,fun j h=>by omega⟩) (To.mk [] rfl rfl List.nodup_nil trivial ?_) ?_
  ·simp(etaStruct := .none)only[push_cast,zab,seval]
  rintro k ⟨hk,hn⟩
  try refine xst ?_
  refine cI (fun h2 => ?_) fun h2 => ?_
  ·have hlt:k<l.length:=by omega
   have hlt2:k<m.length:=by omega
   iterate 2(try simp(etaStruct := .none)only[push_cast,zab,seval,zaq _ _ _ hlt,zaq _ _ _ hlt2,zav,decide_not];try refine xsu ?_)
   (try(refine⟨by kernel_rfl,?_⟩))
   iterate 2(try simp(etaStruct := .none)only[push_cast,zab,seval,zaq _ _ _ hlt,zaq _ _ _ hlt2,zav,decide_not];try refine xsu ?_)
   refine cI (fun h3 => ?_) fun h3 => ?_
   ·have e:l≠m:=by intro e;subst e;simp at h3
    iterate 2(try simp(etaStruct := .none)only[push_cast,zab,seval,zaq _ _ _ hlt,zaq _ _ _ hlt2,zav,decide_not];try refine xsu ?_)
    exact zib rfl trivial (Wk.of (by rw[decide_eq_false e];rfl))
   ·iterate 2(try simp(etaStruct := .none)only[push_cast,zab,seval,zaq _ _ _ hlt,zaq _ _ _ hlt2,zav,decide_not];try refine xsu ?_)
    refine⟨k+1,⟨by omega,fun j hj=>by rcases Nat.lt_or_ge j k with h|h;exact hn j h;rw[show j=k by omega];simpa using h3⟩,by omega,To.mk [] rfl rfl List.nodup_nil trivial ?_⟩
    ·(iterate 2((try simp(etaStruct := .none)only[push_cast,zab,seval,zaq _ _ _ hlt,zaq _ _ _ hlt2,zav,decide_not]);(try(refine xsu ?_;try exact xtI))))
  ·have e:l=m:=by
    refine List.ext_getElem (by omega) fun i i1 i2 => ?_
    have:=hn i (by omega)
    rwa [zcx _ _ i1,zcx _ _ i2]at this
   try refine xst ?_
   exact zib rfl trivial (Wk.of (by rw[decide_eq_true e];rfl))
end Go.Proofs.YthlcafpcndagcaaDoor
namespace Go.Proofs.YthlcafpcndagcaaDoor
set_option linter.all false
open Go.RowKit
set_option maxRecDepth 100000
set_option maxHeartbeats 1000000
abbrev zo2:AV := .agg [I .i64 0,I .i64 0,.c (.v (.slice none 0 0))]
theorem zme (f:Fld) (hl:f.p.length≤9223372036854775807) (h:zbj f≠0):Spec Tryd.prog 9 [zdt f] [] (.tup [zo2,I .i64 (zbj f)]) []:=by
 have C:=zbs f hl
 generalize zbj f=e at *
 refine spB Tryd.func9 51 [.cell 2 24,.tmp 3] Tryd.results9 ?_
 try refine xst ?_
 refine caP (C) ?_
 try refine xst ?_
 refine cI (fun h1 => ?_) fun h1 => ?_
 ·try refine xst ?_
  exact xrz rfl
 ·exact absurd h1 h
def zjg (f:Fld) (i:Nat):Int:=zaz f ⟨((i/f.h.toNat:Nat):Int),f.h-1-((i % f.h.toNat:Nat):Int)⟩
def zcm (f:Fld) (k:Nat):List Int:=(List.range k).map (zjg f)
theorem zjf (f:Fld) (k:Nat):zcm f (k+1)=zcm f k ++ [zjg f k]:=by
 unfold zcm;rw[List.range_succ,List.map_append];rfl
theorem zah (f:Fld) (k:Nat):(zcm f k).length=k:=by simp[zcm]
theorem zj8 (W H:Nat) (p:List Int) (h:zbj ⟨W,H,p⟩=0):Spec Tryd.prog 9 [zdt ⟨W,H,p⟩] [] (.tup [.agg [I .i64 H,I .i64 W,.c (.sl 1 ((zcm ⟨W,H,p⟩ (W*H)).map zav))],I .i64 0]) []:=by
 obtain⟨e1,e2,e3,e4⟩:=za8 h
 simp only at e1 e2 e3
 have hWH:W*H≤40*40:=Nat.mul_le_mul (by omega) (by omega)
 have e3':p.length=W*H:=by exact_mod_cast e3
 have C:=zbs ⟨W,H,p⟩ (by simp only;omega)
 rw[h]at C
 refine spB Tryd.func9 51 [.cell 2 24,.tmp 3] Tryd.results9 ?_
 (iterate 2((try simp(etaStruct := .none)only[push_cast,seval]);(try(refine xsu ?_;try exact xtI))))
 refine caP (C) ?_
 (iterate 2((try simp(etaStruct := .none)only[push_cast,seval]);(try(refine xsu ?_;try exact xtI))))
 refine cI (fun h1 => ?_) fun h1 => ?_
 ·exact absurd h1 (by decide)
 ·(iterate 2((try simp(etaStruct := .none)only[push_cast,seval]);(try(refine xsu ?_;try exact xtI))))
  refine zcb (fun y:Nat=>⟨[(21,I .i64 y),(20,I .i64 W),(5,.ptr 2 0 0),(2,.ptr 1 0 0),(1,.ptr 0 0 0)],[(0,.blk 24 [I .i64 W,I .i64 H,.c (.sl 1 (p.map zav))]),(1,.blk 24 [I .i64 0,I .i64 0,.c (.v (.slice none 0 0))]),(2,.blk 24 [I .i64 H,I .i64 W,.own 3]),(3,.row 3 1 ((zcm ⟨W,H,p⟩ (y*H)).map zav))],4⟩) (fun y:Nat=>y≤W) (fun y:Nat=>W-y) (0) (Nat.zero_le _) ((To.nilC 2 2 3 1 24 _ rfl rfl).trans (To.mk [0,1,2,3] rfl rfl (by decide) ?_ ?_)) ?_
  ·simp(etaStruct := .none)only[push_cast,zab,seval,List.set_cons_succ,List.set_cons_zero,Nat.zero_mul]
   try exact rfl
  ·simp(etaStruct := .none)only[push_cast,zab,seval]
  rintro y hy
  (iterate 2((try simp(etaStruct := .none)only[push_cast,seval]);(try(refine xsu ?_;try exact xtI))))
  refine cI (fun h2 => ?_) fun h2 => ?_
  ·have hlt:y<W:=by omega
   (iterate 2((try simp(etaStruct := .none)only[push_cast,seval]);(try(refine xsu ?_;try exact xtI))))
   refine zcb (fun x:Nat=>⟨[(26,I .i64 x),(25,I .i64 H),(6,I .i64 y),(21,I .i64 y),(20,I .i64 W),(5,.ptr 2 0 0),(2,.ptr 1 0 0),(1,.ptr 0 0 0)],[(0,.blk 24 [I .i64 W,I .i64 H,.c (.sl 1 (p.map zav))]),(1,.blk 24 [I .i64 0,I .i64 0,.c (.v (.slice none 0 0))]),(2,.blk 24 [I .i64 H,I .i64 W,.own 3]),(3,.row 3 1 ((zcm ⟨W,H,p⟩ (y*H+x)).map zav))],4⟩) (fun x:Nat=>x≤H) (fun x:Nat=>H-x) (0) (Nat.zero_le _) (To.mk [0,1,2,3] rfl rfl (by decide) ?_ ?_) ?_
   ·simp(etaStruct := .none)only[push_cast,zab,seval,Nat.add_zero]
   ·simp(etaStruct := .none)only[push_cast,zab,seval]
   rintro x hx
   (iterate 2((try simp(etaStruct := .none)only[push_cast,seval]);(try(refine xsu ?_;try exact xtI))))
   refine cI (fun h3 => ?_) fun h3 => ?_
   ·have hlx:x<H:=by omega
    have a1:((H:Int)-1-x)*W=(((H-1-x)*W:Nat):Int):=by
     rw[show (H:Int)-1-x=((H-1-x:Nat):Int)by omega];simp
    have a2:(H-1-x)*W+y<W*H:=by
     have:(H-1-x)*W≤(H-1)*W:=Nat.mul_le_mul_right _ (by omega)
     have:(H-1)*W+W=W*H:=by
      rw[←Nat.succ_mul,show (H-1).succ=H by omega,Nat.mul_comm]
     omega
    have tl:=zah ⟨W,H,p⟩ (y*H+x)
    have ts:zcm ⟨W,H,p⟩ (y*H+(x+1))=zcm ⟨W,H,p⟩ (y*H+x) ++ [zjg ⟨W,H,p⟩ (y*H+x)]:=zjf ⟨W,H,p⟩ (y*H+x)
    have tg:zjg ⟨W,H,p⟩ (y*H+x)=p.getD ((H-1-x)*W+y) default:=by
     unfold zjg zaz
     simp only[Int.toNat_natCast]
     have q1:(y*H+x)/H=y:=by rw[Nat.mul_comm,Nat.mul_add_div (by omega),Nat.div_eq_of_lt hlx,Nat.add_zero]
     have q2:(y*H+x) % H=x:=by rw[Nat.mul_comm,Nat.mul_add_mod,Nat.mod_eq_of_lt hlx]
     rw[q1,q2,a1]
     congr 1
    rw[tg]at ts
    have hyH:y*H≤W*H:=Nat.mul_le_mul_right _ (by omega)
    have hyH2:y*H+H≤W*H:=by
     have:=Nat.mul_le_mul_right H (show y+1≤W by omega)
     rwa [Nat.add_mul,Nat.one_mul]at this
    generalize hz:(H-1-x)*W=z at *
    have hgz:=zaq zav p (z+y) (by omega)
    have htn:((z:Int)+(y:Int)).toNat=z+y:=by omega
    (iterate 2((try simp(etaStruct := .none)only[push_cast,seval,a1,hgz,htn,zav,tl,List.length_map]);(try(refine xsu ?_;try exact xtI))))
    refine zf7 [some 29,some 30,some 31,some 32,some 33,some 34,some 35,some 36,some 37,some 38,some 39,some 40,some 41,some 42,some 43,some 44,some 45,some 46,some 47,none] rfl ?_
    intro Oq lq Rq hlq hdq hRq
    subst hlq
    iterate 20(refine zgy fun rq hrq => ?_;(iterate 2((try simp(etaStruct := .none)only[push_cast,seval,hdq,id,a1,hgz,htn,zav,tl,List.length_map]);(try(refine xsu ?_;try exact xtI))));subst hrq)
    refine zqn ?_
    subst hRq
    clear hdq Oq
    refine zqm (by kernel_rfl) ?_
    (iterate 2((try simp(etaStruct := .none)only[push_cast,seval,a1,hgz,htn,zav,tl,List.length_map]);(try(refine xsu ?_;try exact xtI))))
    refine⟨x+1,by omega,by omega,To.mk [0,1,2,72] rfl rfl (by decide) ?_ ?_⟩
    ·(iterate 2((try simp(etaStruct := .none)only[push_cast,zab,seval,ts,List.map_append,List.map_cons,List.map_nil,zav,Nat.add_assoc]);(try(refine xsu ?_;try exact xtI))))
    ·(iterate 2((try simp(etaStruct := .none)only[push_cast,seval,a1,hgz,htn,zav,tl,List.length_map]);(try(refine xsu ?_;try exact xtI))))
   ·obtain rfl:x=H:=by omega
    have hrow:(y+1)*x=y*x+x:=by rw[Nat.add_mul,Nat.one_mul]
    (iterate 2((try simp(etaStruct := .none)only[push_cast,seval]);(try(refine xsu ?_;try exact xtI))))
    refine⟨y+1,by omega,by omega,To.mk [0,1,2,3] rfl rfl (by decide) ?_ ?_⟩
    ·(try(refine xz1 hrow ?_;try exact xtI))
    ·(iterate 2((try simp(etaStruct := .none)only[push_cast,seval]);(try(refine xsu ?_;try exact xtI))))
  ·obtain rfl:y=W:=by omega
   (iterate 2((try simp(etaStruct := .none)only[push_cast,seval]);(try(refine xsu ?_;try exact xtI))))
   exact xrz rfl
theorem zgq (f g:Fld) (hf:f.p.length≤9223372036854775807) (hg:g.p.length≤9223372036854775807):Spec Tryd.prog 12 [zdt f,zdt g] [] (B (decide (f.w=g.w)&&decide (f.h=g.h)&&decide (f.p=g.p))) []:=by
 have E:=zp6 f.p g.p hf hg
 refine spB Tryd.func12 24 [.tmp 4] Tryd.results12 ?_
 try refine xst ?_
 refine gcP (fun hcc=>E) ?_
 try refine xst ?_
 exact xrz rfl
theorem zli (f:Fld) (hl:f.p.length≤9223372036854775807) (h:zbj f≠0):Spec Tryd.prog 5 [zdt f] [] (.tup [S ByteArray.empty,I .i64 (zbj f)]) []:=by
 have C:=zc8 f hl
 generalize zbj f=e at *
 refine spB Tryd.func5 38 [.tmp 2,.tmp 3] Tryd.results5 ?_
 try refine xst ?_
 refine caP (C) ?_
 try refine xst ?_
 refine cI (fun h1 => ?_) fun h1 => ?_
 ·try refine xst ?_
  exact xrz rfl
 ·exact absurd h1 h
def zjs (p:Int):UInt8:=if p=0 then 46 else if p=1 then 35 else if p=2 then 116 else 111
def zl9 (f:Fld) (y k:Nat):List UInt8:=(List.range k).map fun x=>zjs (zaz f ⟨(x:Nat),(y:Nat)⟩)
def zdx (f:Fld) (y:Nat):List UInt8:=(List.range y).flatMap fun j=>zl9 f j f.w.toNat ++ [10]
def zan (l:List UInt8):ByteArray:=⟨l.toArray⟩
theorem zbo (a b:List UInt8):zan a++zan b=zan (a++b):=by
 apply ByteArray.ext
 simp[zan,ByteArray.data_append]
theorem zqq:(⟨#[10]⟩:ByteArray)=zan [10]:=rfl
theorem zao (a:List UInt8):(zan a).size=a.length:=by
 show a.toArray.size=_
 simp
theorem zko (f:Fld) (y k:Nat):zl9 f y (k+1)=zl9 f y k ++ [zjs (zaz f ⟨(k:Nat),(y:Nat)⟩)]:=by
 unfold zl9;rw[List.range_succ,List.map_append];rfl
theorem zfo (f:Fld) (y k:Nat):(zl9 f y k).length=k:=by simp[zl9]
theorem ze1 (f:Fld) (y:Nat):zdx f (y+1)=zdx f y++zl9 f y f.w.toNat ++ [10]:=by
 unfold zdx;rw[List.range_succ,List.flatMap_append];simp
theorem zkc (f:Fld) (y:Nat):(zdx f y).length=y*(f.w.toNat+1):=by
 induction y with
 | zero=>simp[zdx]
 | succ y ih=>rw[ze1,List.length_append,List.length_append,ih,zfo,Nat.add_mul];simp;omega
theorem zp1 (P:Int) (h:0≤P∧P<4):([[.v (.string ⟨#[46]⟩)],[.v (.string ⟨#[35]⟩)],[.v (.string ⟨#[116]⟩)],[.v (.string ⟨#[111]⟩)]]:List (List PV)).getD P.toNat [] = [.v (.string (zan [zjs P]))]:=by
 have:P=0∨P=1∨P=2∨P=3:=by omega
 rcases this with rfl|rfl|rfl|rfl<;>rfl
theorem zmo {f:Fld} {c:Cel} (h:zbj f=0) (hc:inF f c=true):0≤zaz f c∧zaz f c<4:=by
 obtain⟨i1,i2,i3,i4,i5⟩:=zfr h hc
 obtain⟨_,_,_,e4⟩:=za8 h
 exact e4 _ (zd7 f.p _ (by omega))
theorem zi2 (W H:Nat) (p:List Int) (h:zbj ⟨W,H,p⟩=0):Spec Tryd.prog 5 [zdt ⟨W,H,p⟩] [] (.tup [S (zan (zdx ⟨W,H,p⟩ H)),I .i64 0]) []:=by
 obtain⟨e1,e2,e3,e4⟩:=za8 h
 simp only at e1 e2 e3
 have hWH:W*H≤40*40:=Nat.mul_le_mul (by omega) (by omega)
 have e3':p.length=W*H:=by exact_mod_cast e3
 have C:=zc8 ⟨W,H,p⟩ (by simp only;omega)
 rw[h]at C
 refine spB Tryd.func5 38 [.tmp 2,.tmp 3] Tryd.results5 ?_
 try refine xst ?_
 refine caP (C) ?_
 try refine xst ?_
 refine cI (fun h1 => ?_) fun h1 => ?_
 ·exact absurd h1 (by decide)
 ·try refine xst ?_
  refine zcb (fun y:Nat=>⟨[(15,I .i64 y),(14,I .i64 H),(5,S (zan (zdx ⟨W,H,p⟩ y))),(1,.ptr 0 0 0)],[(0,.blk 24 [I .i64 W,I .i64 H,.c (.sl 1 (p.map zav))])],1⟩) (fun y:Nat=>y≤H) (fun y:Nat=>H-y) (0) (Nat.zero_le _) (To.mk [0] rfl rfl (by decide) ?_ ?_) ?_
  ·simp(etaStruct := .none)only[push_cast,zab,seval]
  ·simp(etaStruct := .none)only[push_cast,zab,seval]
   exact Wk.of rfl
  rintro y hy
  try refine xst ?_
  refine cI (fun h2 => ?_) fun h2 => ?_
  ·have hlt:y<H:=by omega
   have tl:=zkc ⟨W,H,p⟩ y
   have hy1:y*(W+1)≤40*41:=Nat.mul_le_mul (by omega) (by omega)
   have ts:=ze1 ⟨W,H,p⟩ y
   simp only[Int.toNat_natCast]at tl ts
   try refine xst ?_
   refine zcb (fun x:Nat=>⟨[(20,I .i64 x),(19,I .i64 W),(6,I .i64 y),(15,I .i64 y),(14,I .i64 H),(5,S (zan (zdx ⟨W,H,p⟩ y++zl9 ⟨W,H,p⟩ y x))),(1,.ptr 0 0 0)],[(0,.blk 24 [I .i64 W,I .i64 H,.c (.sl 1 (p.map zav))])],1⟩) (fun x:Nat=>x≤W) (fun x:Nat=>W-x) (0) (Nat.zero_le _) (To.mk [0] rfl rfl (by decide) ?_ ?_) ?_
   ·simp(etaStruct := .none)only[push_cast,zab,seval]
   ·simp(etaStruct := .none)only[push_cast,zab,seval]
    exact Wk.of (by unfold zl9;rw[List.range_zero,List.map_nil,List.append_nil])
   rintro x hx
   try refine xst ?_
   refine cI (fun h3 => ?_) fun h3 => ?_
   ·have hlx:x<W:=by omega
    have rl:=zfo ⟨W,H,p⟩ y x
    have rs:=zko ⟨W,H,p⟩ y x
    have hin:inF ⟨W,H,p⟩ ⟨x,y⟩=true:=inF_iff.2 ⟨⟨by simp only;omega,by simp only;omega⟩,by simp only;omega,by simp only;omega⟩
    have PL:=zfq ⟨W,H,p⟩ ⟨x,y⟩ h hin
    have h04:=zmo h hin
    generalize zaz ⟨W,H,p⟩ ⟨x,y⟩=P at *
    have la:=zp1 P h04
    try refine xz3 la zbo zao ?_
    refine caP (PL) ?_
    try refine xz3 la zbo zao ?_
    refine⟨x+1,by omega,by omega,To.mk [0] rfl rfl (by decide) ?_ ?_⟩
    ·(try(refine xz3 la zbo zao ?_;try exact xtI))
    ·(iterate 2((try simp(etaStruct := .none)only[push_cast,zab,seval,zbo,rs,List.append_assoc]);(try(refine xsu ?_;try exact xtI))))
   ·obtain rfl:x=W:=by omega
    have rl:=zfo ⟨x,H,p⟩ y x
    iterate 2(try simp(etaStruct := .none)only[push_cast,zab,seval,zqq,zbo,zao,List.length_append,List.length_cons,List.length_nil];try refine xsu ?_)
    refine⟨y+1,by omega,by omega,To.mk [0] rfl rfl (by decide) ?_ ?_⟩
    ·(iterate 2((try simp(etaStruct := .none)only[push_cast,zab,seval,zqq,zbo,zao,List.length_append,List.length_cons,List.length_nil]);(try(refine xsu ?_;try exact xtI))))
    ·(iterate 2((try simp(etaStruct := .none)only[push_cast,zab,seval,zqq,zbo,ts,List.append_assoc]);(try(refine xsu ?_;try exact xtI))))
  ·obtain rfl:y=H:=by omega
   try refine xst ?_
   exact xrz rfl
theorem zo7 (xs:List Int) (m:Nat) (hm:1≤m):Spec Tryd.prog 15 [.c (.sl 1 (xs.map zav)),I .i64 m] [] (.clo (.func 24) [] [.fel 1 [[.sl 1 (xs.map zav)]] 0 0,.fel 1 [[.v (.int .i64 m)]] 0 0]) []:=by
 refine spB Tryd.func15 9 [.tmp 4] Tryd.results15 ?_
 try refine xst ?_
 refine cI (fun h1 => ?_) fun h1 => ?_
 ·omega
 ·try refine xst ?_
  exact xrz rfl
def zct (rs:List (List Int)):List UInt8:=rs.flatMap fun r=>r.map zjs ++ [10]
theorem zgk {W:Nat} : ∀ {rs:List (List Int)},(∀z∈rs,z.length=W)→(zct rs).length=rs.length*(W+1)
 | [],_=>by simp[zct]
 | r::rs,h=>by
  have ih:=zgk (rs:=rs) fun z hz=>h z (by simp[hz])
  have h1:=h r (by simp)
  unfold zct at ih ⊢
  rw[List.flatMap_cons,List.length_append,ih,List.length_append,List.length_map,h1]
  simp only[List.length_cons,List.length_nil]
  rw[Nat.add_mul rs.length 1,Nat.one_mul];omega
theorem zjj (rs:List (List Int)) (r:List Int):zct (rs ++ [r])=zct rs++(r.map zjs ++ [10]):=by
 unfold zct;rw[List.flatMap_append];simp
theorem znf (l:List UInt8):zl6 (l.map bP)=True:=eq_true fun q hq=>by
 obtain⟨b,_,rfl⟩:=List.mem_map.1 hq
 rfl
theorem zlx (l:List UInt8):strOfNums ((l.map bP).map zoi)=zan l:=by
 apply ByteArray.ext
 apply Array.ext'
 rw[strOfNums_data,List.map_map,List.map_map]
 show _=l
 have:(((fun n:Int=>UInt8.ofNat n.toNat) ∘ zoi) ∘ bP)=id:=by
  funext b
  show UInt8.ofNat ((b.toNat:Nat):Int).toNat=b
  rw[Int.toNat_natCast];simp
 rw[this,List.map_id]
theorem zpn (P:Int) (h:0≤P∧P<4):([46,35,116,111]:List UInt8).getD P.toNat 0=zjs P:=by
 have:P=0∨P=1∨P=2∨P=3:=by omega
 rcases this with rfl|rfl|rfl|rfl<;>rfl
theorem zgf (f:Fld) (hl:f.p.length≤9223372036854775807) (h:zbj f≠0):Spec Tryd.prog 4 [zdt f] [] (.tup [S ByteArray.empty,I .i64 (zbj f)]) []:=by
 have C:=zbs f hl
 generalize zbj f=e at *
 refine spB Tryd.func4 37 [.tmp 2,.tmp 3] Tryd.results4 ?_
 try refine xst ?_
 refine caP (C) ?_
 try refine xst ?_
 refine cI (fun h1 => ?_) fun h1 => ?_
 ·try refine xst ?_
  exact xrz rfl
 ·exact absurd h1 h
theorem zdz (W H:Nat) (p:List Int) (h:zbj ⟨W,H,p⟩=0):Spec Tryd.prog 4 [zdt ⟨W,H,p⟩] [] (.tup [S (zan (zct ((List.range H).map (zbx p W)))),I .i64 0]) []:=by
 obtain⟨e1,e2,e3,e4⟩:=za8 h
 simp only at e1 e2 e3
 have hWH:W*H≤40*40:=Nat.mul_le_mul (by omega) (by omega)
 have e3':p.length=H*W:=by rw[Nat.mul_comm];exact_mod_cast e3
 have C:=zbs ⟨W,H,p⟩ (by simp only;rw[Nat.mul_comm]at hWH;omega)
 rw[h]at C
 have hPi:∀k,k<H→(fun c:List Int=>c.length=W∧∀q∈c,0≤q∧q<4) (zbx p W k):=fun k hk =>
  ⟨zc6 p W H k e3' hk,fun q hq=>e4 q (List.mem_of_mem_drop (List.mem_of_mem_take hq))⟩
 refine spB Tryd.func4 37 [.tmp 2,.tmp 3] Tryd.results4 ?_
 (iterate 2((try simp(etaStruct := .none)only[push_cast,seval]);(try(refine xsu ?_;try exact xtI))))
 refine caP (C) ?_
 (iterate 2((try simp(etaStruct := .none)only[push_cast,seval]);(try(refine xsu ?_;try exact xtI))))
 refine cI (fun h1 => ?_) fun h1 => ?_
 ·exact absurd h1 (by decide)
 ·(iterate 2((try simp(etaStruct := .none)only[push_cast,seval]);(try(refine xsu ?_;try exact xtI))))
  refine caP (zo7 p W (by omega)) ?_
  (iterate 2((try simp(etaStruct := .none)only[push_cast,seval]);(try(refine xsu ?_;try exact xtI))))
  refine zoc (by kernel_rfl) rfl (zhx p W H (by omega) (by omega) e3' (by rw[e3',Nat.mul_comm];omega) (fun c=>c.length=W∧∀q∈c,0≤q∧q<4) hPi) [(5,.ptr 0 0 0)] 1 2 (fun pre => [(0,.blk 40 [.own 1]),(1,.row 5 1 ((zct pre).map bP))]) ((To.nilC 1 0 5 1 40 _ rfl rfl).trans (To.mk [1,2] rfl rfl (by decide) ?_ ?_)) (by decide) (by decide) (by decide) (fun pre=>by exact zky rfl) (by kernel_rfl) (by decide) (by decide) (fun pre x hpl hpr hx => ?_) ?_
  ·simp(etaStruct := .none)only[push_cast,zab,seval,List.set_cons_zero]
   try exact rfl
  ·simp(etaStruct := .none)only[push_cast,zab,seval]
  ·skip
   obtain⟨xl,xb⟩:=hx
   have trl:=zgk (W:=W) (rs:=pre) fun z hz=>(hpr z hz).1
   rw[List.length_map,List.length_range]at hpl
   have tr2:pre.length*(W+1)≤40*41:=Nat.mul_le_mul (by omega) (by omega)
   (iterate 2((try simp(etaStruct := .none)only[push_cast,seval,zgt]);(try(refine xsu ?_;try exact xtI))))
   refine zcb (fun k:Nat=>⟨[(22,I .i64 k),(21,I .i64 x.length),(20,.c (.sl 1 (x.map zav))),(5,.ptr 0 0 0)],[(0,.blk 40 [.own 1]),(1,.row 5 1 ((zct pre++(x.take k).map zjs).map bP))],2⟩) (fun k:Nat=>k≤x.length) (fun k:Nat=>x.length-k) (0) (Nat.zero_le _) (To.mk [0,1] rfl rfl (by decide) ?_ ?_) ?_
   ·simp(etaStruct := .none)only[push_cast,zab,seval]
   ·simp(etaStruct := .none)only[push_cast,zab,seval]
   rintro k hk
   (iterate 2((try simp(etaStruct := .none)only[push_cast,seval,zgt]);(try(refine xsu ?_;try exact xtI))))
   refine cI (fun h2 => ?_) fun h2 => ?_
   ·have hlt:k<x.length:=by omega
    have hq:=xb _ (zd7 x k hlt)
    have hgx:=zaq zav x k hlt
    have sn:=zb7 x k hlt
    have la:=zpn _ hq
    generalize x.getD k default=q at *
    have hsz:(⟨#[46,35,116,111]⟩:ByteArray).size=4:=rfl
    have htk:(List.take k x).length≤k:=List.length_take_le _ _
    (iterate 2((try simp(etaStruct := .none)only[push_cast,seval,zgt,hgx,zav,la,hsz,List.length_append,List.length_map]);(try(refine xsu ?_;try exact xtI))))
    refine zf7 [some 26,some 27,some 28,some 29,some 30,none] rfl ?_
    intro Oq lq Rq hlq hdq hRq
    subst hlq
    iterate 6(refine zgy fun rq hrq => ?_;(iterate 2((try simp(etaStruct := .none)only[push_cast,seval,hdq,id,zgt,hgx,zav,la,hsz,List.length_append,List.length_map]);(try(refine xsu ?_;try exact xtI))));subst hrq)
    refine zqn ?_
    subst hRq
    clear hdq Oq
    refine zqm (by kernel_rfl) ?_
    (iterate 2((try simp(etaStruct := .none)only[push_cast,seval,zgt,hgx,zav,la,hsz,List.length_append,List.length_map]);(try(refine xsu ?_;try exact xtI))))
    refine⟨k+1,by omega,by omega,To.mk [0,18] rfl rfl (by decide) ?_ ?_⟩
    ·(iterate 2((try simp(etaStruct := .none)only[push_cast,zab,seval,sn,List.map_append,List.map_cons,List.map_nil,bP,List.append_assoc]);(try(refine xsu ?_;try exact xtI))))
    ·(iterate 2((try simp(etaStruct := .none)only[push_cast,seval,zgt,hgx,zav,la,hsz,List.length_append,List.length_map]);(try(refine xsu ?_;try exact xtI))))
   ·have h2':¬((k:Int)<(W:Int)):=of_decide_eq_false h2
    obtain rfl:k=x.length:=by omega
    (iterate 2((try simp(etaStruct := .none)only[push_cast,seval,zgt,List.take_length]);(try(refine xsu ?_;try exact xtI))))
    refine To.mk [0,3] rfl rfl (by decide) ?_ ?_
    ·iterate 2(try simp(etaStruct := .none)only[push_cast,zab,seval,zjj,List.map_append,List.map_cons,List.map_nil,bP,List.append_assoc];try refine xsu ?_)
     try exact rfl
    ·(iterate 2((try simp(etaStruct := .none)only[push_cast,seval,zgt,List.take_length]);(try(refine xsu ?_;try exact xtI))))
  try refine xz2 znf zlx ?_
  (iterate 2((try simp(etaStruct := .none)only[push_cast,seval]);(try(refine xsu ?_;try exact xtI))))
  exact xrz rfl
end Go.Proofs.YthlcafpcndagcaaDoor
namespace Go.Proofs.YthlcafpcndagcaaDoor
set_option linter.all false
open Go.RowKit
set_option maxRecDepth 100000
theorem zci (s:ByteArray) (c:Int):Spec Tryd.prog 16 [S s,I .u8 c] [] (I .i64 (Lib.indexByte s.data.toList (UInt8.ofNat c.toNat))) [] :=
 zeb (zi6 rfl rfl rfl) [.string s,.int .u8 c] _ rfl fun w=>(Tryd.strings_IndexByte s c w).mono fun e w' h=>⟨h.1,h.2▸Below.refl _ _⟩
theorem zot (s:ByteArray) (c:UInt8):Spec Tryd.prog 28 [S s,S ⟨#[c]⟩] [] (I .i64 (Lib.indexByte s.data.toList c)) [] :=
 zeb (zi6 rfl rfl rfl) [.string s,.string ⟨#[c]⟩] _ rfl fun w=>(Tryd.strings_Index_one s c w).mono fun e w' h=>⟨h.1,h.2▸Below.refl _ _⟩
theorem zf8 (s:ByteArray) (c:UInt8):Spec Tryd.prog 17 [S s,S ⟨#[c]⟩] [] (I .i64 (Lib.countByte s.data.toList c)) [] :=
 zeb (zi6 rfl rfl rfl) [.string s,.string ⟨#[c]⟩] _ rfl fun w=>(Tryd.strings_Count_one s c w).mono fun e w' h=>⟨h.1,h.2▸Below.refl _ _⟩
end Go.Proofs.YthlcafpcndagcaaDoor
namespace Go.Proofs.YthlcafpcndagcaaDoor
set_option linter.all false
open Go.RowKit
set_option maxRecDepth 100000
set_option maxHeartbeats 1000000
def sgn (b:UInt8):Int:=Lib.indexByte [46,35,116,111] b
def zco (l:List UInt8):List Int:=(l.map sgn).filter fun k=>decide (0≤k)
theorem ze4 (l:List UInt8) (b:UInt8):zco (l ++ [b])=zco l++if 0≤sgn b then [sgn b]else []:=by
 unfold zco
 rw[List.map_append,List.filter_append]
 congr 1
 simp only[List.map_cons,List.map_nil,List.filter_cons,List.filter_nil,decide_eq_true_eq]
theorem zej (l:List UInt8):(zco l).length≤l.length:=by
 unfold zco
 exact Nat.le_trans (List.length_filter_le _ _) (by simp)
def zbw (s:ByteArray):Fld:=⟨Lib.indexByte s.data.toList 10,Lib.countByte s.data.toList 10,zco s.data.toList⟩
theorem zkq (s:ByteArray) (hs:s.size≤1048576) (t:ByteArray) (e:Int) (hW:Spec Tryd.prog 4 [zdt (zbw s)] [] (.tup [S t,I .i64 e]) []) (h:e≠0∨t≠s):Spec Tryd.prog 6 [S s] [] (.tup [zo2,I .i64 4]) []:=by
 have I1:=zci s 10
 have C1:=zf8 s 10
 have hsl:s.data.toList.length=s.size:=by rw[Array.length_toList];rfl
 refine spB Tryd.func6 46 [.cell 2 24,.tmp 3] Tryd.results6 ?_
 (iterate 2((try simp(etaStruct := .none)only[push_cast,seval]);(try(refine xsu ?_;try exact xtI))))
 refine caP (I1) ?_
 (iterate 2((try simp(etaStruct := .none)only[push_cast,seval]);(try(refine xsu ?_;try exact xtI))))
 refine caP (C1) ?_
 (iterate 2((try simp(etaStruct := .none)only[push_cast,seval]);(try(refine xsu ?_;try exact xtI))))
 refine zcb (fun k:Nat=>⟨[(16,I .i64 k),(15,I .i64 s.size),(4,.ptr 1 0 0),(2,.ptr 0 0 0),(0,S s)],[(0,.blk 24 [I .i64 0,I .i64 0,.c (.v (.slice none 0 0))]),(1,.blk 24 [I .i64 (zbw s).w,I .i64 (zbw s).h,.own 2]),(2,.row 3 1 ((zco (s.data.toList.take k)).map zav))],3⟩) (fun k:Nat=>k≤s.size) (fun k:Nat=>s.size-k) (0) (Nat.zero_le _) ((To.nilC 1 2 3 1 24 _ rfl rfl).trans (To.mk [0,1,2] rfl rfl (by decide) ?_ ?_)) ?_
 ·simp(etaStruct := .none)only[push_cast,zab,seval,List.set_cons_succ,List.set_cons_zero]
  exact⟨⟨Wk.refl _,Wk.refl _⟩,rfl⟩
 ·simp(etaStruct := .none)only[push_cast,zab,seval]
 rintro k hk
 (iterate 2((try simp(etaStruct := .none)only[push_cast,seval]);(try(refine xsu ?_;try exact xtI))))
 refine cI (fun h1 => ?_) fun h1 => ?_
 ·have hlt:k<s.data.toList.length:=by omega
  have sn:=zb7 s.data.toList k hlt
  have rs:=ze4 (s.data.toList.take k) (s.data.toList.getD k default)
  have rl:=zej (s.data.toList.take k)
  have tl:(s.data.toList.take k).length≤k:=List.length_take_le _ _
  have hof:UInt8.ofNat (s.data.toList.getD k default).toNat=s.data.toList.getD k default:=by simp
  rw[←sn]at rs
  (iterate 2((try simp(etaStruct := .none)only[push_cast,seval,hof]);(try(refine xsu ?_;try exact xtI))))
  refine caP (zci ⟨#[46,35,116,111]⟩ ((s.data.toList.getD k default).toNat:Nat)) ?_
  (iterate 2((try simp(etaStruct := .none)only[push_cast,seval,hof]);(try(refine xsu ?_;try exact xtI))))
  refine cI (fun h2 => ?_) fun h2 => ?_
  ·have h2':0≤sgn (s.data.toList.getD k default):=h2
   rw[if_pos h2']at rs
   (iterate 2((try simp(etaStruct := .none)only[push_cast,seval,hof]);(try(refine xsu ?_;try exact xtI))))
   refine⟨k+1,by omega,by omega,To.mk [0,1,4] rfl rfl (by decide) ?_ ?_⟩
   ·(iterate 2((try simp(etaStruct := .none)only[push_cast,zab,seval,rs,List.map_append,List.map_cons,List.map_nil,zav,sgn]);(try(refine xsu ?_;try exact xtI))))
   ·(iterate 2((try simp(etaStruct := .none)only[push_cast,seval,hof]);(try(refine xsu ?_;try exact xtI))))
  ·have h2':¬0≤sgn (s.data.toList.getD k default):=by unfold sgn;omega
   rw[if_neg h2',List.append_nil]at rs
   (iterate 2((try simp(etaStruct := .none)only[push_cast,seval,hof]);(try(refine xsu ?_;try exact xtI))))
   refine⟨k+1,by omega,by omega,To.mk [0,1,2] rfl rfl (by decide) ?_ ?_⟩
   ·(try(refine xz1 rs ?_;try exact xtI))
   ·(iterate 2((try simp(etaStruct := .none)only[push_cast,seval,hof]);(try(refine xsu ?_;try exact xtI))))
 ·obtain rfl:k=s.size:=by omega
  have htk:s.data.toList.take s.size=s.data.toList:=List.take_of_length_le (by omega)
  rw[htk]
  (iterate 2((try simp(etaStruct := .none)only[push_cast,seval]);(try(refine xsu ?_;try exact xtI))))
  refine zqg (hW) (WkL.refl _) rfl ?_
  (iterate 2((try simp(etaStruct := .none)only[push_cast,seval]);(try(refine xsu ?_;try exact xtI))))
  refine cI (fun h3 => ?_) fun h3 => ?_
  ·(iterate 2((try simp(etaStruct := .none)only[push_cast,seval]);(try(refine xsu ?_;try exact xtI))))
   exact xrz rfl
  ·exfalso
   rcases h with h|h
   ·exact h h3.1
   ·exact h h3.2
theorem zmn (s:ByteArray) (hs:s.size≤1048576) (hW:Spec Tryd.prog 4 [zdt (zbw s)] [] (.tup [S s,I .i64 0]) []):Spec Tryd.prog 6 [S s] [] (.tup [zdt (zbw s),I .i64 0]) []:=by
 have I1:=zci s 10
 have C1:=zf8 s 10
 have hsl:s.data.toList.length=s.size:=by rw[Array.length_toList];rfl
 refine spB Tryd.func6 46 [.cell 2 24,.tmp 3] Tryd.results6 ?_
 (iterate 2((try simp(etaStruct := .none)only[push_cast,seval]);(try(refine xsu ?_;try exact xtI))))
 refine caP (I1) ?_
 (iterate 2((try simp(etaStruct := .none)only[push_cast,seval]);(try(refine xsu ?_;try exact xtI))))
 refine caP (C1) ?_
 (iterate 2((try simp(etaStruct := .none)only[push_cast,seval]);(try(refine xsu ?_;try exact xtI))))
 refine zcb (fun k:Nat=>⟨[(16,I .i64 k),(15,I .i64 s.size),(4,.ptr 1 0 0),(2,.ptr 0 0 0),(0,S s)],[(0,.blk 24 [I .i64 0,I .i64 0,.c (.v (.slice none 0 0))]),(1,.blk 24 [I .i64 (zbw s).w,I .i64 (zbw s).h,.own 2]),(2,.row 3 1 ((zco (s.data.toList.take k)).map zav))],3⟩) (fun k:Nat=>k≤s.size) (fun k:Nat=>s.size-k) (0) (Nat.zero_le _) ((To.nilC 1 2 3 1 24 _ rfl rfl).trans (To.mk [0,1,2] rfl rfl (by decide) ?_ ?_)) ?_
 ·simp(etaStruct := .none)only[push_cast,zab,seval,List.set_cons_succ,List.set_cons_zero]
  exact⟨⟨Wk.refl _,Wk.refl _⟩,rfl⟩
 ·simp(etaStruct := .none)only[push_cast,zab,seval]
 rintro k hk
 (iterate 2((try simp(etaStruct := .none)only[push_cast,seval]);(try(refine xsu ?_;try exact xtI))))
 refine cI (fun h1 => ?_) fun h1 => ?_
 ·have hlt:k<s.data.toList.length:=by omega
  have sn:=zb7 s.data.toList k hlt
  have rs:=ze4 (s.data.toList.take k) (s.data.toList.getD k default)
  have rl:=zej (s.data.toList.take k)
  have tl:(s.data.toList.take k).length≤k:=List.length_take_le _ _
  have hof:UInt8.ofNat (s.data.toList.getD k default).toNat=s.data.toList.getD k default:=by simp
  rw[←sn]at rs
  (iterate 2((try simp(etaStruct := .none)only[push_cast,seval,hof]);(try(refine xsu ?_;try exact xtI))))
  refine caP (zci ⟨#[46,35,116,111]⟩ ((s.data.toList.getD k default).toNat:Nat)) ?_
  (iterate 2((try simp(etaStruct := .none)only[push_cast,seval,hof]);(try(refine xsu ?_;try exact xtI))))
  refine cI (fun h2 => ?_) fun h2 => ?_
  ·have h2':0≤sgn (s.data.toList.getD k default):=h2
   rw[if_pos h2']at rs
   (iterate 2((try simp(etaStruct := .none)only[push_cast,seval,hof]);(try(refine xsu ?_;try exact xtI))))
   refine⟨k+1,by omega,by omega,To.mk [0,1,4] rfl rfl (by decide) ?_ ?_⟩
   ·(iterate 2((try simp(etaStruct := .none)only[push_cast,zab,seval,rs,List.map_append,List.map_cons,List.map_nil,zav,sgn]);(try(refine xsu ?_;try exact xtI))))
   ·(iterate 2((try simp(etaStruct := .none)only[push_cast,seval,hof]);(try(refine xsu ?_;try exact xtI))))
  ·have h2':¬0≤sgn (s.data.toList.getD k default):=by unfold sgn;omega
   rw[if_neg h2',List.append_nil]at rs
   (iterate 2((try simp(etaStruct := .none)only[push_cast,seval,hof]);(try(refine xsu ?_;try exact xtI))))
   refine⟨k+1,by omega,by omega,To.mk [0,1,2] rfl rfl (by decide) ?_ ?_⟩
   ·(try(refine xz1 rs ?_;try exact xtI))
   ·(iterate 2((try simp(etaStruct := .none)only[push_cast,seval,hof]);(try(refine xsu ?_;try exact xtI))))
 ·obtain rfl:k=s.size:=by omega
  have htk:s.data.toList.take s.size=s.data.toList:=List.take_of_length_le (by omega)
  rw[htk]
  (iterate 2((try simp(etaStruct := .none)only[push_cast,seval]);(try(refine xsu ?_;try exact xtI))))
  refine zqg (hW) (WkL.refl _) rfl ?_
  (iterate 2((try simp(etaStruct := .none)only[push_cast,seval]);(try(refine xsu ?_;try exact xtI))))
  refine cI (fun h3 => ?_) fun h3 => ?_
  ·exact absurd h3 (by simp)
  ·(iterate 2((try simp(etaStruct := .none)only[push_cast,seval]);(try(refine xsu ?_;try exact xtI))))
   exact xrz rfl
def zaf:List UInt8→List UInt8
 | [] => []
 | b::r=>if b=10 then []else b::zaf r
def zb4:List UInt8→List UInt8
 | [] => []
 | b::r=>if b=10 then r else zb4 r
def zae:Nat→List UInt8→List UInt8
 | 0,l=>l
 | k+1,l=>zae k (zb4 l)
theorem zer:∀l:List UInt8,0<l.count 10→Lib.indexByte l 10=((zaf l).length:Nat)∧l=zaf l++10::zb4 l∧(zb4 l).count 10+1=l.count 10
 | [],h=>by simp at h
 | b::r,h=>by
  by_cases e:b=10
  ·subst e
   exact⟨by simp[Lib.indexByte,zaf],by simp[zaf,zb4],by simp[zb4]⟩
  ·have hc:(b::r).count 10=r.count 10:=by rw[List.count_cons];simp[e]
   rw[hc]at h ⊢
   obtain⟨h1,h2,h3⟩:=zer r h
   simp only[zaf,zb4,if_neg e]
   refine⟨?_,by rw[List.cons_append,←h2],h3⟩
   have g:¬((((zaf r).length:Nat):Int) = -1):=by omega
   simp only[Lib.indexByte,h1,List.length_cons,beq_iff_eq,if_neg e,if_neg g]
   omega
theorem zde:∀(k:Nat) (l:List UInt8),zae (k+1) l=zb4 (zae k l)
 | 0,_=>rfl
 | k+1,l=>zde k (zb4 l)
theorem zcu:∀(k:Nat) (l:List UInt8),k≤l.count 10→(zae k l).count 10=l.count 10-k
 | 0,_,_=>rfl
 | k+1,l,h=>by
  have:=(zer l (by omega)).2.2
  show (zae k (zb4 l)).count 10=_
  rw[zcu k (zb4 l) (by omega)];omega
theorem zgl:∀l:List UInt8,(zb4 l).length≤l.length
 | []=>Nat.le_refl _
 | b::r=>by
  unfold zb4
  have:=zgl r
  split<;>simp only[List.length_cons]<;>omega
theorem zc3:∀(k:Nat) (l:List UInt8),(zae k l).length≤l.length
 | 0,_=>Nat.le_refl _
 | k+1,l=>Nat.le_trans (zc3 k (zb4 l)) (zgl l)
theorem zb5 (l:List UInt8):(zan l).data.toList=l:=by simp[zan]
theorem zgj (l:List UInt8) (a b:Nat):(zan l).extract a b=zan ((l.take b).drop a):=by
 apply ByteArray.ext
 rw[ByteArray.data_extract]
 apply Array.ext'
 simp[zan,List.drop_take]
def zak (k:Nat) (l:List UInt8):List (List UInt8):=(List.range k).map fun i=>zaf (zae i l)
theorem zcv (k:Nat) (l:List UInt8):zak (k+1) l=zak k l ++ [zaf (zae k l)]:=by
 unfold zak;rw[List.range_succ,List.map_append];rfl
theorem zaa (k:Nat) (l:List UInt8):(zak k l).length=k:=by simp[zak]
def zaj (r:List UInt8):List PV := [.v (.string (zan r))]
theorem zi4 {α : Type} (xs:List α) (k m:Nat) (z x : α) (h:xs.length=k):(xs++List.replicate (m+1) z).set k x=xs ++ [x]++List.replicate m z:=by
 subst h
 rw[List.set_append_right _ _ (Nat.le_refl _),Nat.sub_self,List.replicate_succ,List.set_cons_zero];simp
abbrev zqf:List PV := [.v (.string ByteArray.empty)]
theorem zha (k n:Nat) (l:List UInt8) (h:k≤n):((zak k l).map zaj++List.replicate (n+1-k) ([.v (.string ByteArray.empty)]:List PV)).length=n+1:=by rw[List.length_append,List.length_map,zaa,List.length_replicate];omega
theorem zlk (n:Nat) (l:List UInt8):((zak n l).map zaj++List.replicate (n+1-n) ([.v (.string ByteArray.empty)]:List PV)).set n [.v (.string (zan (zae n l)))]=(zak n l ++ [zae n l]).map zaj:=by
 rw[show n+1-n=0+1 from by omega,List.map_append]
 exact(zi4 _ n _ _ _ (by rw[List.length_map,zaa])).trans (by simp[zaj])
theorem szT:(⟨#[10]⟩:ByteArray).size=1:=rfl
theorem zm4 (l:List UInt8) (hl:l.length≤1048576):Spec Tryd.prog 29 [S (zan l),S ⟨#[10]⟩,I .i64 0,I .i64 (-1)] [] (.c (.sl 1 ((zak (l.count 10) l ++ [zae (l.count 10) l]).map zaj))) []:=by
 have C1:=zf8 (zan l) 10
 rw[zb5]at C1
 have hcl:l.count 10≤l.length:=List.count_le_length
 have hcnt:=zcu
 have hrl:=fun k=>zc3 k l
 unfold Lib.countByte at C1
 generalize hn:l.count 10=n at *
 have hts:=zao l
 have hmin:¬((((zan l).size:Nat):Int)+1<(n:Int)+1):=by omega
 refine spB Tryd.func29 66 [.tmp 8] Tryd.results29 ?_
 try refine xst ?_
 refine cI (fun h1 => ?_) fun h1 => ?_
 ·exact absurd h1 (by decide)
 ·try refine xst ?_
  refine cI (fun h2 => ?_) fun h2 => ?_
  ·exact absurd h2 (by decide)
  ·try refine xst ?_
   refine cI (fun h3 => ?_) fun h3 => ?_
   ·try refine xst ?_
    refine caP (C1) ?_
    try refine xst ?_
    refine zcb (fun k:Nat=>⟨[(10,I .i64 k),(9,.own 0),(3,I .i64 n),(2,I .i64 0),(1,S ⟨#[10]⟩),(0,S (zan (zae k l)))],[(0,.row 9 1 ((zak k l).map zaj++List.replicate (n+1-k) [.v (.string ByteArray.empty)]))],1⟩) (fun k:Nat=>k≤n) (fun k:Nat=>n-k) (0) (Nat.zero_le _) (To.mk [0] rfl rfl (by decide) ?_ ?_) ?_
    ·simp(etaStruct := .none)only[push_cast,zab,seval,if_neg hmin]
     rfl
    ·simp(etaStruct := .none)only[push_cast,zab,seval,if_neg hmin]
     exact⟨Wk.of (by rw[Int.add_sub_cancel]),Wk.refl _⟩
    rintro k hk
    try refine xst ?_
    refine cI (fun h4 => ?_) fun h4 => ?_
    ·have hlt:k<n:=by omega
     obtain⟨i1,i2,i3⟩:=zer (zae k l) (by rw[hcnt k l (by omega)];omega)
     have I1:=zot (zan (zae k l)) 10
     rw[zb5,i1]at I1
     have rl:=hrl k
     have ts:=zao (zae k l)
     have hl2:(zaf (zae k l)).length+1≤(zae k l).length:=by
      have:=congrArg List.length i2
      simp only[List.length_append,List.length_cons]at this;omega
     have e1:(zan (zae k l)).extract 0 (zaf (zae k l)).length=zan (zaf (zae k l)):=by
      rw[zgj,List.drop_zero];exact congrArg zan ((congrArg (List.take _) i2).trans List.take_left)
     have e2:(zan (zae k l)).extract ((zaf (zae k l)).length+1) (zan (zae k l)).size=zan (zae (k+1) l):=by
      rw[zgj,ts,List.take_length,zde]
      refine congrArg zan ((congrArg (List.drop _) i2).trans ?_)
      rw[show (zaf (zae k l)).length+1=(zaf (zae k l)).length+1 from rfl,List.drop_length_add_append];rfl
     have tn:(((zaf (zae k l)).length:Nat)+1:Int).toNat=(zaf (zae k l)).length+1:=by omega
     have lF:=zha k n l (by omega)
     have fs:((zak k l).map zaj++List.replicate (n+1-k) zqf).set k [.v (.string (zan (zaf (zae k l))))]=(zak (k+1) l).map zaj++List.replicate (n+1-(k+1)) zqf:=by
      rw[show n+1-k=(n-k)+1 from by omega,show n+1-(k+1)=n-k from by omega,zcv,List.map_append]
      exact zi4 _ k _ _ _ (by rw[List.length_map,zaa])
     iterate 2(try simp(etaStruct := .none)only[push_cast,zab,seval,szT,e1,e2,tn,lF,Int.add_zero,Int.toNat_natCast];try refine xsu ?_)
     refine caP (I1) ?_
     iterate 2(try simp(etaStruct := .none)only[push_cast,zab,seval,szT,e1,e2,tn,lF,Int.add_zero,Int.toNat_natCast];try refine xsu ?_)
     refine cI (fun h5 => ?_) fun h5 => ?_
     ·omega
     ·iterate 2(try simp(etaStruct := .none)only[push_cast,zab,seval,szT,e1,e2,tn,lF,Int.add_zero,Int.toNat_natCast];try refine xsu ?_)
      refine⟨k+1,by omega,by omega,To.mk [0] rfl rfl (by decide) ?_ ?_⟩
      ·(try(refine xz1 fs ?_;try exact xtI))
      ·(iterate 2((try simp(etaStruct := .none)only[push_cast,zab,seval,szT,e1,e2,tn,lF,Int.add_zero,Int.toNat_natCast]);(try(refine xsu ?_;try exact xtI))))
    ·obtain rfl:k=n:=by omega
     have lF:=zha k k l (by omega)
     have lE:=zlk k l
     have lG:((zak k l ++ [zae k l]).map zaj).length=k+1:=by rw[List.length_map,List.length_append,zaa];rfl
     have tk:((k:Int)+1).toNat=k+1:=by omega
     try refine xz4 lF lE lG tk ?_
     refine zib rfl trivial (Wk.of ?_)
     show AV.c (.sl 1 (List.take _ (List.drop 0 _)))=_
     rw[List.drop_zero,List.take_of_length_le (by omega)]
   ·exact absurd h3 (by decide)
abbrev zmk (l:List UInt8):List (List UInt8):=zak (l.count 10) l ++ [zae (l.count 10) l]
theorem zhm (l:List UInt8) (hl:l.length≤1048576):Spec Tryd.prog 18 [S (zan l),S ⟨#[10]⟩] [] (.c (.sl 1 ((zmk l).map zaj))) []:=by
 have G:=zm4 l hl
 refine spB Tryd.func18 8 [.tmp 4] Tryd.results18 ?_
 try refine xst ?_
 refine caP (G) ?_
 try refine xst ?_
 exact xrz rfl
def za4 (k:Nat) (l:List UInt8):List Int:=(zak k l).flatMap (·.map sgn)
theorem zb9 (k:Nat) (l:List UInt8):za4 (k+1) l=za4 k l++(zaf (zae k l)).map sgn:=by
 unfold za4;rw[zcv,List.flatMap_append];simp
theorem zcd:∀l:List UInt8,(zaf l).length≤l.length
 | []=>Nat.le_refl _
 | b::r=>by
  unfold zaf
  have:=zcd r
  split<;>simp only[List.length_cons,List.length_nil]<;>omega
theorem zbq {W:Nat} : ∀(k:Nat) (l:List UInt8),(∀j,j<k→(zaf (zae j l)).length=W)→(za4 k l).length=k*W
 | 0,l,_=>by simp[za4,zak]
 | k+1,l,h=>by
  rw[zb9,List.length_append,List.length_map,zbq k l (fun j hj=>h j (by omega)),h k (by omega),Nat.add_mul,Nat.one_mul]
theorem znk {α : Type} {l t:List α} {a : α} {P : α → Prop} (e:t=l ++ [a]) (h:∀b∈l,P b) (ha:P a):∀b∈t,P b:=fun b hb=>by
 rw[e]at hb
 rcases List.mem_append.1 hb with hb|hb
 ·exact h b hb
 ·rw[List.mem_singleton.1 hb];exact ha
theorem zj6 {P:Nat→Prop} {k:Nat} (h:∀j,j<k→P j) (hk:P k):∀j,j<k+1→P j:=fun j hj=>by
 rcases Nat.lt_or_ge j k with h1|h1
 ·exact h j h1
 ·rw[show j=k from by omega];exact hk
theorem ziw (k n:Nat) (l:List UInt8) (h:k<n):((zak n l).map zaj).getD k []=zaj (zaf (zae k l)):=by
 unfold zak
 simp[h]
theorem zkl (n:Nat) (l:List UInt8):((zak n l ++ [zae n l]).map zaj).getD n []=zaj (zae n l):=by
 rw[List.map_append,List.getD_eq_getElem?_getD,List.getElem?_append_right (by simp[zak]),List.length_map,zaa];simp
theorem zia (n:Nat) (l:List UInt8) (h:1≤n):((zak n l ++ [zae n l]).map zaj).getD 0 []=zaj (zaf l):=by
 obtain⟨m,rfl⟩:∃m,n=m+1:=⟨n-1,by omega⟩
 unfold zak
 rw[List.range_succ_eq_map]
 rfl
theorem zn9 (n:Nat) (l:List UInt8):∃r0:List UInt8,((zak n l ++ [zae n l]).map zaj).getD 0 []=zaj r0∧r0.length≤l.length:=by
 rcases Nat.eq_zero_or_pos n with rfl|h
 ·exact⟨l,rfl,Nat.le_refl _⟩
 ·exact⟨zaf l,zia n l h,zcd l⟩
theorem zgs (n:Nat) (l:List UInt8):((zak n l ++ [zae n l]).map zaj).take n=(zak n l).map zaj:=by
 rw[List.map_append,List.take_append_of_le_length (by simp[zak]),List.take_of_length_le (by simp[zak])]
theorem zfn (n:Nat) (l:List UInt8):((zak n l ++ [zae n l]).map zaj).length=n+1:=by simp[zak]
theorem tE:(zan []=(⟨#[]⟩:ByteArray))=True:=eq_true rfl
theorem zji (l:List UInt8) (hl:l.length≤1048576) (n W:Nat) (hn:l.count 10=n) (h0:1≤n∧n≤40) (hr:zae n l = []) (hW:(zaf l).length=W) (hw:1≤W∧W≤40) (hg:∀k,k<n→(zaf (zae k l)).length=W∧∀b∈zaf (zae k l),0≤sgn b) :
 Spec Tryd.prog 7 [S (zan l)] [] (.tup [.agg [I .i64 W,I .i64 n,.c (.sl 1 ((za4 n l).map zav))],I .i64 0]) []:=by
 have G:=zhm l hl
 have gn:=zkl n l
 have g0:=zia n l (by omega)
 have gt:=zgs n l
 have gl:=zfn n l
 unfold zmk at G
 rw[hn]at G
 rw[hr]at G gn g0 gt gl
 have w1:zat n 1 40=true:=within_iff.2 ⟨by omega,by omega⟩
 have w2:zat W 1 40=true:=within_iff.2 ⟨by omega,by omega⟩
 have sW:=zao (zaf l)
 rw[hW]at sW
 refine spB Tryd.func7 77 [.cell 2 24,.tmp 3] Tryd.results7 ?_
 (iterate 2((try simp(etaStruct := .none)only[push_cast,seval,zaa,gn,g0,gt,gl,w1,w2,sW,tE,zaj,Int.add_sub_cancel,Int.toNat_natCast]);(try(refine xsu ?_;try exact xtI))))
 refine caP (G) ?_
 (iterate 2((try simp(etaStruct := .none)only[push_cast,seval,zaa,gn,g0,gt,gl,w1,w2,sW,tE,zaj,Int.add_sub_cancel,Int.toNat_natCast]);(try(refine xsu ?_;try exact xtI))))
 refine caP (zax n 1 40) ?_
 (iterate 2((try simp(etaStruct := .none)only[push_cast,seval,zaa,gn,g0,gt,gl,w1,w2,sW,tE,zaj,Int.add_sub_cancel,Int.toNat_natCast]);(try(refine xsu ?_;try exact xtI))))
 refine gcP (fun hcc=>zax W 1 40) ?_
 (iterate 2((try simp(etaStruct := .none)only[push_cast,seval,zaa,gn,g0,gt,gl,w1,w2,sW,tE,zaj,Int.add_sub_cancel,Int.toNat_natCast]);(try(refine xsu ?_;try exact xtI))))
 refine cI (fun h1 => ?_) fun h1 => ?_
 ·exact absurd h1 (by decide)
 ·(iterate 2((try simp(etaStruct := .none)only[push_cast,seval,zaa,gn,g0,gt,gl,w1,w2,sW,tE,zaj,Int.add_sub_cancel,Int.toNat_natCast]);(try(refine xsu ?_;try exact xtI))))
  refine zcb (fun k:Nat=>⟨[(46,I .i64 k),(45,I .i64 n),(44,.c (.sl 1 ((zak n l).map zaj))),(6,.ptr 1 0 0),(2,.ptr 0 0 0)],[(0,.blk 24 [I .i64 0,I .i64 0,.c (.v (.slice none 0 0))]),(1,.blk 24 [I .i64 W,I .i64 n,.own 2]),(2,.row 3 1 ((za4 k l).map zav))],3⟩) (fun k:Nat=>k≤n) (fun k:Nat=>n-k) (0) (Nat.zero_le _) ((To.nilC 1 2 3 1 24 _ rfl rfl).trans (To.mk [0,1,2] rfl rfl (by decide) ?_ ?_)) ?_
  ·simp(etaStruct := .none)only[push_cast,zab,seval,List.set_cons_succ,List.set_cons_zero]
   exact rfl
  ·simp(etaStruct := .none)only[push_cast,zab,seval,zaa]
  rintro k hk
  (iterate 2((try simp(etaStruct := .none)only[push_cast,seval,zaa,gn,g0,gt,gl,w1,w2,sW,tE,zaj,Int.add_sub_cancel,Int.toNat_natCast]);(try(refine xsu ?_;try exact xtI))))
  refine cI (fun h2 => ?_) fun h2 => ?_
  ·have hlt:k<n:=by omega
   have gk:=ziw k n l hlt
   obtain⟨g1,g2⟩:=hg k hlt
   have ps:=zb9 k l
   have hkr:(zaf (zae k l)).length≤l.length:=Nat.le_trans (zcd _) (zc3 k l)
   have sk:=zao (zaf (zae k l))
   rw[g1]at sk
   have tk:=zb5 (zaf (zae k l))
   (iterate 2((try simp(etaStruct := .none)only[push_cast,seval,zaa,gn,g0,gt,gl,w1,w2,sW,tE,zaj,Int.add_sub_cancel,Int.toNat_natCast,gk,sk,tk,g1]);(try(refine xsu ?_;try exact xtI))))
   refine cI (fun h3 => ?_) fun h3 => ?_
   ·exact absurd h3 (by simp)
   ·(iterate 2((try simp(etaStruct := .none)only[push_cast,seval,zaa,gn,g0,gt,gl,w1,w2,sW,tE,zaj,Int.add_sub_cancel,Int.toNat_natCast,gk,sk,tk,g1]);(try(refine xsu ?_;try exact xtI))))
    refine zcb (fun x:Nat=>⟨[(59,I .i64 x),(58,I .i64 W),(57,.c (.sl 1 ((zaf (zae k l)).map bP))),(46,I .i64 k),(45,I .i64 n),(44,.c (.sl 1 ((zak n l).map zaj))),(6,.ptr 1 0 0),(2,.ptr 0 0 0)],[(0,.blk 24 [I .i64 0,I .i64 0,.c (.v (.slice none 0 0))]),(1,.blk 24 [I .i64 W,I .i64 n,.own 2]),(2,.row 3 1 ((za4 k l++((zaf (zae k l)).take x).map sgn).map zav))],3⟩) (fun x:Nat=>x≤W) (fun x:Nat=>W-x) (0) (Nat.zero_le _) (To.mk [0,1,2] rfl rfl (by decide) ?_ ?_) ?_
    ·simp(etaStruct := .none)only[push_cast,zab,seval]
    ·simp(etaStruct := .none)only[push_cast,zab,seval]
    rintro x hx
    (iterate 2((try simp(etaStruct := .none)only[push_cast,seval,zaa,gn,g0,gt,gl,w1,w2,sW,tE,zaj,Int.add_sub_cancel,Int.toNat_natCast,gk,sk,tk,g1]);(try(refine xsu ?_;try exact xtI))))
    refine cI (fun h4 => ?_) fun h4 => ?_
    ·have hlx:x<(zaf (zae k l)).length:=by omega
     have sn:=zb7 (zaf (zae k l)) x hlx
     have hm:=g2 _ (zd7 (zaf (zae k l)) x hlx)
     have pl:=zbq k l (W:=W) (fun j hj=>(hg j (by omega)).1)
     have pk:k*W≤40*40:=Nat.mul_le_mul (by omega) (by omega)
     have hof:UInt8.ofNat ((zaf (zae k l)).getD x default).toNat=(zaf (zae k l)).getD x default:=by simp
     (iterate 2((try simp(etaStruct := .none)only[push_cast,seval,zaa,gn,g0,gt,gl,w1,w2,sW,tE,zaj,Int.add_sub_cancel,Int.toNat_natCast,gk,sk,tk,g1,zaq _ _ _ hlx,bP,hof]);(try(refine xsu ?_;try exact xtI))))
     refine caP (zci ⟨#[46,35,116,111]⟩ (((zaf (zae k l)).getD x default).toNat:Nat)) ?_
     (iterate 2((try simp(etaStruct := .none)only[push_cast,seval,zaa,gn,g0,gt,gl,w1,w2,sW,tE,zaj,Int.add_sub_cancel,Int.toNat_natCast,gk,sk,tk,g1,zaq _ _ _ hlx,bP,hof]);(try(refine xsu ?_;try exact xtI))))
     refine cI (fun h5 => ?_) fun h5 => ?_
     ·unfold sgn at hm;omega
     ·(iterate 2((try simp(etaStruct := .none)only[push_cast,seval,zaa,gn,g0,gt,gl,w1,w2,sW,tE,zaj,Int.add_sub_cancel,Int.toNat_natCast,gk,sk,tk,g1,zaq _ _ _ hlx,bP,hof]);(try(refine xsu ?_;try exact xtI))))
      refine⟨x+1,by omega,by omega,To.mk [0,1,4] rfl rfl (by decide) ?_ ?_⟩
      ·(iterate 2((try simp(etaStruct := .none)only[push_cast,zab,seval,sn,List.map_append,List.map_cons,List.map_nil,zav,sgn,List.append_assoc]);(try(refine xsu ?_;try exact xtI))))
      ·(iterate 2((try simp(etaStruct := .none)only[push_cast,seval,zaa,gn,g0,gt,gl,w1,w2,sW,tE,zaj,Int.add_sub_cancel,Int.toNat_natCast,gk,sk,tk,g1,zaq _ _ _ hlx,bP,hof]);(try(refine xsu ?_;try exact xtI))))
    ·obtain rfl:x=W:=by omega
     have htk:(zaf (zae k l)).take x=zaf (zae k l):=List.take_of_length_le (by omega)
     rw[htk]
     (iterate 2((try simp(etaStruct := .none)only[push_cast,seval,zaa,gn,g0,gt,gl,w1,w2,sW,tE,zaj,Int.add_sub_cancel,Int.toNat_natCast,gk,sk,tk,g1]);(try(refine xsu ?_;try exact xtI))))
     refine⟨k+1,by omega,by omega,To.mk [0,1,2] rfl rfl (by decide) ?_ ?_⟩
     ·(try(refine xz1 ps ?_;try exact xtI))
     ·(iterate 2((try simp(etaStruct := .none)only[push_cast,seval,zaa,gn,g0,gt,gl,w1,w2,sW,tE,zaj,Int.add_sub_cancel,Int.toNat_natCast,gk,sk,tk,g1]);(try(refine xsu ?_;try exact xtI))))
  ·obtain rfl:k=n:=by omega
   (iterate 2((try simp(etaStruct := .none)only[push_cast,seval,zaa,gn,g0,gt,gl,w1,w2,sW,tE,zaj,Int.add_sub_cancel,Int.toNat_natCast]);(try(refine xsu ?_;try exact xtI))))
   exact xrz rfl
theorem zhl (l:List UInt8) (hl:l.length≤1048576) (n:Nat) (hn:l.count 10=n) (h:¬((1≤n∧n≤40)∧zae n l = []∧1≤(zaf l).length∧(zaf l).length≤40)) :
 Spec Tryd.prog 7 [S (zan l)] [] (.tup [zo2,I .i64 4]) []:=by
 have G:=zhm l hl
 have gn:=zkl n l
 have gl:=zfn n l
 unfold zmk at G
 rw[hn]at G
 have hC:=zax n 1 40
 have sW:=zao (zaf l)
 have hcl:l.count 10≤l.length:=List.count_le_length
 rw[hn]at hcl
 have hhl:=zcd l
 by_cases hn1:1≤n∧n≤40
 ·have w1:zat n 1 40=true:=within_iff.2 ⟨by omega,by omega⟩
  have g0:=zia n l (by omega)
  by_cases hr:zae n l = []
  ·have w2:zat (zaf l).length 1 40=false:=within_f.2 (fun hh=>h ⟨hn1,hr,by omega,by omega⟩)
   rw[hr]at G gn g0 gl
   refine spB Tryd.func7 77 [.cell 2 24,.tmp 3] Tryd.results7 ?_
   (iterate 2((try simp(etaStruct := .none)only[push_cast,seval,zaa,gn,g0,gl,w1,w2,sW,tE,zaj,Int.add_sub_cancel,Int.toNat_natCast]);(try(refine xsu ?_;try exact xtI))))
   refine caP (G) ?_
   (iterate 2((try simp(etaStruct := .none)only[push_cast,seval,zaa,gn,g0,gl,w1,w2,sW,tE,zaj,Int.add_sub_cancel,Int.toNat_natCast]);(try(refine xsu ?_;try exact xtI))))
   refine caP (hC) ?_
   (iterate 2((try simp(etaStruct := .none)only[push_cast,seval,zaa,gn,g0,gl,w1,w2,sW,tE,zaj,Int.add_sub_cancel,Int.toNat_natCast]);(try(refine xsu ?_;try exact xtI))))
   refine gcP (fun hcc=>zax (zaf l).length 1 40) ?_
   (iterate 2((try simp(etaStruct := .none)only[push_cast,seval,zaa,gn,g0,gl,w1,w2,sW,tE,zaj,Int.add_sub_cancel,Int.toNat_natCast]);(try(refine xsu ?_;try exact xtI))))
   refine cI (fun h1 => ?_) fun h1 => ?_
   ·(iterate 2((try simp(etaStruct := .none)only[push_cast,seval,zaa,gn,g0,gl,w1,w2,sW,tE,zaj,Int.add_sub_cancel,Int.toNat_natCast]);(try(refine xsu ?_;try exact xtI))))
    exact xrz rfl
   ·exact absurd h1 (by decide)
  ·have hne:(zan (zae n l)=(⟨#[]⟩:ByteArray))=False:=eq_false fun e=>hr (by have:=congrArg (fun s:ByteArray=>s.data.toList) e;rwa [zb5]at this)
   refine spB Tryd.func7 77 [.cell 2 24,.tmp 3] Tryd.results7 ?_
   (iterate 2((try simp(etaStruct := .none)only[push_cast,seval,zaa,gn,g0,gl,w1,sW,hne,zaj,Int.add_sub_cancel,Int.toNat_natCast]);(try(refine xsu ?_;try exact xtI))))
   refine caP (G) ?_
   (iterate 2((try simp(etaStruct := .none)only[push_cast,seval,zaa,gn,g0,gl,w1,sW,hne,zaj,Int.add_sub_cancel,Int.toNat_natCast]);(try(refine xsu ?_;try exact xtI))))
   refine caP (hC) ?_
   (iterate 2((try simp(etaStruct := .none)only[push_cast,seval,zaa,gn,g0,gl,w1,sW,hne,zaj,Int.add_sub_cancel,Int.toNat_natCast]);(try(refine xsu ?_;try exact xtI))))
   refine gcP (fun hcc=>zax (zaf l).length 1 40) ?_
   (iterate 2((try simp(etaStruct := .none)only[push_cast,seval,zaa,gn,g0,gl,w1,sW,hne,zaj,Int.add_sub_cancel,Int.toNat_natCast]);(try(refine xsu ?_;try exact xtI))))
   refine cI (fun h1 => ?_) fun h1 => ?_
   ·(iterate 2((try simp(etaStruct := .none)only[push_cast,seval,zaa,gn,g0,gl,w1,sW,hne,zaj,Int.add_sub_cancel,Int.toNat_natCast]);(try(refine xsu ?_;try exact xtI))))
    exact xrz rfl
   ·exact absurd h1 (by decide)
 ·have w1:zat n 1 40=false:=within_f.2 (fun hh=>hn1 ⟨by omega,by omega⟩)
  obtain⟨r0,g0,hr0⟩:=zn9 n l
  have s0:=zao r0
  refine spB Tryd.func7 77 [.cell 2 24,.tmp 3] Tryd.results7 ?_
  (iterate 2((try simp(etaStruct := .none)only[push_cast,seval,zaa,gn,g0,gl,w1,s0,zaj,Int.add_sub_cancel,Int.toNat_natCast]);(try(refine xsu ?_;try exact xtI))))
  refine caP (G) ?_
  (iterate 2((try simp(etaStruct := .none)only[push_cast,seval,zaa,gn,g0,gl,w1,s0,zaj,Int.add_sub_cancel,Int.toNat_natCast]);(try(refine xsu ?_;try exact xtI))))
  refine caP (hC) ?_
  (iterate 2((try simp(etaStruct := .none)only[push_cast,seval,zaa,gn,g0,gl,w1,s0,zaj,Int.add_sub_cancel,Int.toNat_natCast]);(try(refine xsu ?_;try exact xtI))))
  refine gcP (fun hcc=>zax r0.length 1 40) ?_
  (iterate 2((try simp(etaStruct := .none)only[push_cast,seval,zaa,gn,g0,gl,w1,s0,zaj,Int.add_sub_cancel,Int.toNat_natCast]);(try(refine xsu ?_;try exact xtI))))
  refine cI (fun h1 => ?_) fun h1 => ?_
  ·(iterate 2((try simp(etaStruct := .none)only[push_cast,seval,zaa,gn,g0,gl,w1,s0,zaj,Int.add_sub_cancel,Int.toNat_natCast]);(try(refine xsu ?_;try exact xtI))))
   exact xrz rfl
  ·exact absurd h1 (by decide)
def zoz (W:Nat) (l:List UInt8) (k:Nat):Prop:=(zaf (zae k l)).length=W∧∀b∈zaf (zae k l),0≤sgn b
theorem zkb (l:List UInt8) (hl:l.length≤1048576) (n W:Nat) (hn:l.count 10=n) (h0:1≤n∧n≤40) (hr:zae n l = []) (hW:(zaf l).length=W) (hw:1≤W∧W≤40) (hb:¬ ∀k,k<n→zoz W l k) :
 Spec Tryd.prog 7 [S (zan l)] [] (.tup [zo2,I .i64 4]) []:=by
 have G:=zhm l hl
 have gn:=zkl n l
 have g0:=zia n l (by omega)
 have gt:=zgs n l
 have gl:=zfn n l
 unfold zmk at G
 rw[hn]at G
 rw[hr]at G gn g0 gt gl
 have w1:zat n 1 40=true:=within_iff.2 ⟨by omega,by omega⟩
 have w2:zat W 1 40=true:=within_iff.2 ⟨by omega,by omega⟩
 have sW:=zao (zaf l)
 rw[hW]at sW
 refine spB Tryd.func7 77 [.cell 2 24,.tmp 3] Tryd.results7 ?_
 (iterate 2((try simp(etaStruct := .none)only[push_cast,seval,zaa,gn,g0,gt,gl,w1,w2,sW,tE,zaj,Int.add_sub_cancel,Int.toNat_natCast]);(try(refine xsu ?_;try exact xtI))))
 refine caP (G) ?_
 (iterate 2((try simp(etaStruct := .none)only[push_cast,seval,zaa,gn,g0,gt,gl,w1,w2,sW,tE,zaj,Int.add_sub_cancel,Int.toNat_natCast]);(try(refine xsu ?_;try exact xtI))))
 refine caP (zax n 1 40) ?_
 (iterate 2((try simp(etaStruct := .none)only[push_cast,seval,zaa,gn,g0,gt,gl,w1,w2,sW,tE,zaj,Int.add_sub_cancel,Int.toNat_natCast]);(try(refine xsu ?_;try exact xtI))))
 refine gcP (fun hcc=>zax W 1 40) ?_
 (iterate 2((try simp(etaStruct := .none)only[push_cast,seval,zaa,gn,g0,gt,gl,w1,w2,sW,tE,zaj,Int.add_sub_cancel,Int.toNat_natCast]);(try(refine xsu ?_;try exact xtI))))
 refine cI (fun h1 => ?_) fun h1 => ?_
 ·exact absurd h1 (by decide)
 ·(iterate 2((try simp(etaStruct := .none)only[push_cast,seval,zaa,gn,g0,gt,gl,w1,w2,sW,tE,zaj,Int.add_sub_cancel,Int.toNat_natCast]);(try(refine xsu ?_;try exact xtI))))
  refine zcb (fun k:Nat=>⟨[(46,I .i64 k),(45,I .i64 n),(44,.c (.sl 1 ((zak n l).map zaj))),(6,.ptr 1 0 0),(2,.ptr 0 0 0)],[(0,.blk 24 [I .i64 0,I .i64 0,.c (.v (.slice none 0 0))]),(1,.blk 24 [I .i64 W,I .i64 n,.own 2]),(2,.row 3 1 ((za4 k l).map zav))],3⟩) (fun k:Nat=>k≤n∧∀j,j<k→zoz W l j) (fun k:Nat=>n-k) (0) (⟨Nat.zero_le _,fun j hj=>absurd hj (Nat.not_lt_zero j)⟩) ((To.nilC 1 2 3 1 24 _ rfl rfl).trans (To.mk [0,1,2] rfl rfl (by decide) ?_ ?_)) ?_
  ·simp(etaStruct := .none)only[push_cast,zab,seval,List.set_cons_succ,List.set_cons_zero]
   exact rfl
  ·simp(etaStruct := .none)only[push_cast,zab,seval,zaa]
  rintro k ⟨hk,hg⟩
  (iterate 2((try simp(etaStruct := .none)only[push_cast,seval,zaa,gn,g0,gt,gl,w1,w2,sW,tE,zaj,Int.add_sub_cancel,Int.toNat_natCast]);(try(refine xsu ?_;try exact xtI))))
  refine cI (fun h2 => ?_) fun h2 => ?_
  ·have hlt:k<n:=by omega
   have gk:=ziw k n l hlt
   have ps:=zb9 k l
   have hkr:(zaf (zae k l)).length≤l.length:=Nat.le_trans (zcd _) (zc3 k l)
   have sk:=zao (zaf (zae k l))
   have tk:=zb5 (zaf (zae k l))
   (iterate 2((try simp(etaStruct := .none)only[push_cast,seval,zaa,gn,g0,gt,gl,w1,w2,sW,tE,zaj,Int.add_sub_cancel,Int.toNat_natCast,gk,sk,tk]);(try(refine xsu ?_;try exact xtI))))
   refine cI (fun h3 => ?_) fun h3 => ?_
   ·(iterate 2((try simp(etaStruct := .none)only[push_cast,seval,zaa,gn,g0,gt,gl,w1,w2,sW,tE,zaj,Int.add_sub_cancel,Int.toNat_natCast,gk,sk,tk]);(try(refine xsu ?_;try exact xtI))))
    exact xrz rfl
   ·have g1:(zaf (zae k l)).length=W:=by omega
    rw[g1]at sk
    (iterate 2((try simp(etaStruct := .none)only[push_cast,seval,zaa,gn,g0,gt,gl,w1,w2,sW,tE,zaj,Int.add_sub_cancel,Int.toNat_natCast,gk,sk,tk,g1]);(try(refine xsu ?_;try exact xtI))))
    refine zcb (fun x:Nat=>⟨[(59,I .i64 x),(58,I .i64 W),(57,.c (.sl 1 ((zaf (zae k l)).map bP))),(46,I .i64 k),(45,I .i64 n),(44,.c (.sl 1 ((zak n l).map zaj))),(6,.ptr 1 0 0),(2,.ptr 0 0 0)],[(0,.blk 24 [I .i64 0,I .i64 0,.c (.v (.slice none 0 0))]),(1,.blk 24 [I .i64 W,I .i64 n,.own 2]),(2,.row 3 1 ((za4 k l++((zaf (zae k l)).take x).map sgn).map zav))],3⟩) (fun x:Nat=>x≤W∧∀b∈(zaf (zae k l)).take x,0≤sgn b) (fun x:Nat=>W-x) (0) (⟨Nat.zero_le _,fun b hb=>by simp at hb⟩) (To.mk [0,1,2] rfl rfl (by decide) ?_ ?_) ?_
    ·simp(etaStruct := .none)only[push_cast,zab,seval]
    ·simp(etaStruct := .none)only[push_cast,zab,seval]
    rintro x ⟨hx,g2⟩
    (iterate 2((try simp(etaStruct := .none)only[push_cast,seval,zaa,gn,g0,gt,gl,w1,w2,sW,tE,zaj,Int.add_sub_cancel,Int.toNat_natCast,gk,sk,tk,g1]);(try(refine xsu ?_;try exact xtI))))
    refine cI (fun h4 => ?_) fun h4 => ?_
    ·have hlx:x<(zaf (zae k l)).length:=by omega
     have sn:=zb7 (zaf (zae k l)) x hlx
     have pl:=zbq k l (W:=W) (fun j hj=>(hg j (by omega)).1)
     have pk:k*W≤40*40:=Nat.mul_le_mul (by omega) (by omega)
     have hof:UInt8.ofNat ((zaf (zae k l)).getD x default).toNat=(zaf (zae k l)).getD x default:=by simp
     (iterate 2((try simp(etaStruct := .none)only[push_cast,seval,zaa,gn,g0,gt,gl,w1,w2,sW,tE,zaj,Int.add_sub_cancel,Int.toNat_natCast,gk,sk,tk,g1,zaq _ _ _ hlx,bP,hof]);(try(refine xsu ?_;try exact xtI))))
     refine caP (zci ⟨#[46,35,116,111]⟩ (((zaf (zae k l)).getD x default).toNat:Nat)) ?_
     (iterate 2((try simp(etaStruct := .none)only[push_cast,seval,zaa,gn,g0,gt,gl,w1,w2,sW,tE,zaj,Int.add_sub_cancel,Int.toNat_natCast,gk,sk,tk,g1,zaq _ _ _ hlx,bP,hof]);(try(refine xsu ?_;try exact xtI))))
     refine cI (fun h5 => ?_) fun h5 => ?_
     ·(iterate 2((try simp(etaStruct := .none)only[push_cast,seval,zaa,gn,g0,gt,gl,w1,w2,sW,tE,zaj,Int.add_sub_cancel,Int.toNat_natCast,gk,sk,tk,g1,zaq _ _ _ hlx,bP,hof]);(try(refine xsu ?_;try exact xtI))))
      exact xrz rfl
     ·have hm:0≤sgn ((zaf (zae k l)).getD x default):=by unfold sgn;omega
      (iterate 2((try simp(etaStruct := .none)only[push_cast,seval,zaa,gn,g0,gt,gl,w1,w2,sW,tE,zaj,Int.add_sub_cancel,Int.toNat_natCast,gk,sk,tk,g1,zaq _ _ _ hlx,bP,hof]);(try(refine xsu ?_;try exact xtI))))
      refine⟨x+1,⟨by omega,znk sn g2 hm⟩,by omega,To.mk [0,1,4] rfl rfl (by decide) ?_ ?_⟩
      ·(iterate 2((try simp(etaStruct := .none)only[push_cast,zab,seval,sn,List.map_append,List.map_cons,List.map_nil,zav,sgn,List.append_assoc]);(try(refine xsu ?_;try exact xtI))))
      ·(iterate 2((try simp(etaStruct := .none)only[push_cast,seval,zaa,gn,g0,gt,gl,w1,w2,sW,tE,zaj,Int.add_sub_cancel,Int.toNat_natCast,gk,sk,tk,g1,zaq _ _ _ hlx,bP,hof]);(try(refine xsu ?_;try exact xtI))))
    ·obtain rfl:x=W:=by omega
     have htk:(zaf (zae k l)).take x=zaf (zae k l):=List.take_of_length_le (by omega)
     rw[htk]at g2 ⊢
     (iterate 2((try simp(etaStruct := .none)only[push_cast,seval,zaa,gn,g0,gt,gl,w1,w2,sW,tE,zaj,Int.add_sub_cancel,Int.toNat_natCast,gk,sk,tk,g1]);(try(refine xsu ?_;try exact xtI))))
     refine⟨k+1,⟨by omega,zj6 hg ⟨g1,g2⟩⟩,by omega,To.mk [0,1,2] rfl rfl (by decide) ?_ ?_⟩
     ·(try(refine xz1 ps ?_;try exact xtI))
     ·(iterate 2((try simp(etaStruct := .none)only[push_cast,seval,zaa,gn,g0,gt,gl,w1,w2,sW,tE,zaj,Int.add_sub_cancel,Int.toNat_natCast,gk,sk,tk,g1]);(try(refine xsu ?_;try exact xtI))))
  ·exact absurd (fun j hj=>hg j (by omega)) hb
theorem Spec.wk0 {P:Program} {f:FuncId} {args:List AV} {hs hs':List Chunk} {r r':AV} (S:Spec P f args hs r hs') (hw:Wk r r'):Spec P f args hs r' hs':=by
 obtain⟨S0,S1,S⟩:=S
 refine⟨S0,S1,fun w F β vs M hv=>(S w F β vs M hv).mono ?_⟩
 rintro e w' ⟨v,F',β',h1,h2,h3,h4⟩
 exact⟨v,F',β',h1,h2,hw _ _ _ _ _ h3,h4⟩
theorem zo1 {W H:Nat} {p:List Int} (h1:1≤W∧W≤40) (h2:1≤H∧H≤40) (h3:p.length=W*H) (h4:∀q∈p,0≤q∧q<4):zbj ⟨W,H,p⟩=0:=by
 have w1:zat W 1 40=true:=within_iff.2 ⟨by omega,by omega⟩
 have w2:zat H 1 40=true:=within_iff.2 ⟨by omega,by omega⟩
 refine zg9 (by simp only[zbc,w1,w2];rfl) (by simp only;exact_mod_cast h3) fun j hj => ?_
 have:=h4 _ (zd7 p j hj)
 exact within_iff.2 ⟨by simp only;omega,by simp only;omega⟩
theorem zki {b:UInt8} (h:0≤sgn b):sgn b<4∧zjs (sgn b)=b:=by
 unfold sgn at *
 simp only[Lib.indexByte,beq_iff_eq]at *
 by_cases h1:(46:UInt8)=b
 ·subst h1;exact⟨by decide,rfl⟩
 ·by_cases h2:(35:UInt8)=b
  ·subst h2;exact⟨by decide,rfl⟩
  ·by_cases h3:(116:UInt8)=b
   ·subst h3;exact⟨by decide,rfl⟩
   ·by_cases h4:(111:UInt8)=b
    ·subst h4;exact⟨by decide,rfl⟩
    ·simp[h1,h2,h3,h4]at h
theorem zon {q:Int} (h:0≤q∧q<4):sgn (zjs q)=q∧zjs q≠10:=by
 have:q=0∨q=1∨q=2∨q=3:=by omega
 rcases this with rfl|rfl|rfl|rfl<;>exact⟨by decide,by decide⟩
theorem ze7 {W:Nat} : ∀(Rs:List (List Int)),(∀r∈Rs,r.length=W)→(List.range Rs.length).map (zbx Rs.flatten W)=Rs
 | [],_=>rfl
 | r::Rs,h=>by
  have hr:=h r (by simp)
  have ih:=ze7 Rs fun z hz=>h z (by simp[hz])
  rw[List.length_cons,List.range_succ_eq_map,List.map_cons,List.map_map,List.flatten_cons]
  congr 1
  ·unfold zbx;rw[Nat.zero_mul,List.drop_zero,List.take_append_of_le_length (by omega),List.take_of_length_le (by omega)]
  ·refine Eq.trans (List.map_congr_left fun k _ => ?_) ih
   show zbx _ W (k+1)=_
   unfold zbx
   rw[show (k+1)*W=r.length+k*W by rw[hr,Nat.add_mul];omega,List.drop_length_add_append]
theorem zdj (l:List UInt8):∀k,k≤l.count 10→l=(zak k l).flatMap (· ++ [10])++zae k l
 | 0,_=>rfl
 | k+1,h=>by
  have ih:=zdj l k (by omega)
  have hk:=(zer (zae k l) (by rw[zcu k l (by omega)];omega)).2.1
  rw[zcv,List.flatMap_append,zde]
  rw[hk]at ih
  simpa using ih
theorem zgw (a b:List UInt8):zco (a++b)=zco a++zco b:=by
 unfold zco;rw[List.map_append,List.filter_append]
theorem zkr {r:List UInt8} (h:∀b∈r,0≤sgn b):zco r=r.map sgn:=by
 unfold zco
 refine List.filter_eq_self.2 fun q hq => ?_
 obtain⟨b,hb,rfl⟩:=List.mem_map.1 hq
 exact decide_eq_true (h b hb)
theorem zei:∀ {L:List (List UInt8)},(∀r∈L,∀b∈r,0≤sgn b)→zco (L.flatMap (· ++ [10]))=L.flatMap (·.map sgn)
 | [],_=>rfl
 | r::L,h=>by
  rw[List.flatMap_cons,List.flatMap_cons,zgw,zgw,zkr (h r (by simp)),zei (fun z hz=>h z (by simp[hz]))]
  have:zco [10] = []:=rfl
  rw[this,List.append_nil]
theorem zoy {r t:List UInt8} (h:∀b∈r,b≠10):zaf (r++10::t)=r∧zb4 (r++10::t)=t:=by
 induction r with
 | nil=>exact⟨rfl,rfl⟩
 | cons b r ih =>
  have hb:=h b (by simp)
  have:=ih fun z hz=>h z (by simp[hz])
  simp only[List.cons_append,zaf,zb4,if_neg hb,this.1,this.2,and_self]
theorem ziv:∀(L:List (List UInt8)),(∀r∈L,∀b∈r,b≠10)→(L.flatMap (· ++ [10])).count 10=L.length∧zae L.length (L.flatMap (· ++ [10])) = []∧∀k,k<L.length→zaf (zae k (L.flatMap (· ++ [10])))∈L
 | [],_=>⟨rfl,rfl,fun k h=>by simp at h⟩
 | r::L,h=>by
  obtain⟨h1,h2,h3⟩:=ziv L fun z hz=>h z (by simp[hz])
  have e:(r::L).flatMap (· ++ [10])=r++10::L.flatMap (· ++ [10]):=by simp
  obtain⟨k1,k2⟩:=zoy (t:=L.flatMap (· ++ [10])) (h r (by simp))
  rw[e]
  refine⟨?_,?_,fun k hk => ?_⟩
  ·rw[List.count_append,List.count_cons_self,h1,List.count_eq_zero.2 (fun hm=>h r (by simp) 10 hm rfl)];simp
  ·show zae L.length (zb4 _) = []
   rw[k2];exact h2
  ·cases k with
   | zero =>
    have:zaf (zae 0 (r++10::L.flatMap (· ++ [10])))=r:=k1
    rw[this];simp
   | succ k =>
    show zaf (zae k (zb4 _))∈_
    rw[k2]
    exact List.mem_cons_of_mem _ (h3 k (by simpa using hk))
theorem zg7 {P:List UInt8→Prop} {n:Nat} {l:List UInt8} (h:∀k,k<n→P (zaf (zae k l))):∀r∈zak n l,P r:=fun r hr=>by
 unfold zak at hr
 obtain⟨k,hk,rfl⟩:=List.mem_map.1 hr
 exact h k (List.mem_range.1 hk)
def zlg (l:List UInt8):Prop:=(1≤l.count 10∧l.count 10≤40)∧zae (l.count 10) l = []∧(1≤(zaf l).length∧(zaf l).length≤40)∧∀k,k<l.count 10→zoz (zaf l).length l k
theorem ze5 {l:List UInt8} (h:zlg l):zbw (zan l)=⟨((zaf l).length:Nat),(l.count 10:Nat),za4 (l.count 10) l⟩:=by
 obtain⟨h1,h2,h3,h4⟩:=h
 have a:=(zer l (by omega)).1
 have j:=zdj l _ (Nat.le_refl _)
 rw[h2,List.append_nil]at j
 have p:=zei (L:=zak (l.count 10) l) (zg7 fun k hk=>(h4 k hk).2)
 rw[←j]at p
 unfold zbw za4
 rw[zb5,a,p];rfl
theorem zje {l:List UInt8} (h:zlg l):zbj (zbw (zan l))=0∧zct ((List.range (l.count 10)).map (zbx (za4 (l.count 10) l) (zaf l).length))=l:=by
 have hF:=ze5 h
 obtain⟨h1,h2,h3,h4⟩:=h
 have j:=zdj l _ (Nat.le_refl _)
 rw[h2,List.append_nil]at j
 have hp:za4 (l.count 10) l=((zak (l.count 10) l).map (·.map sgn)).flatten:=by unfold za4;rw[List.flatMap_def]
 have hA:=zg7 (P:=fun r=>r.length=(zaf l).length∧∀b∈r,0≤sgn b) h4
 have hf:=ze7 (W:=(zaf l).length) ((zak (l.count 10) l).map (·.map sgn)) fun r hr=>by
  obtain⟨z,hz,rfl⟩:=List.mem_map.1 hr
  rw[List.length_map];exact(hA z hz).1
 rw[List.length_map,zaa,←hp]at hf
 refine⟨?_,?_⟩
 ·rw[hF]
  refine zo1 h3 h1 (by rw[zbq _ _ fun k hk=>(h4 k hk).1,Nat.mul_comm]) fun q hq => ?_
  unfold za4 at hq
  obtain⟨r,hr,hq⟩:=List.mem_flatMap.1 hq
  obtain⟨b,hb,rfl⟩:=List.mem_map.1 hq
  exact⟨(hA r hr).2 b hb,(zki ((hA r hr).2 b hb)).1⟩
 ·rw[hf]
  refine Eq.trans ?_ j.symm
  unfold zct
  rw[List.flatMap_map]
  refine congrArg List.flatten (List.map_congr_left fun r hr => ?_)
  have:(r.map sgn).map zjs=r:=by
   rw[List.map_map]
   exact(List.map_congr_left fun b hb=>(zki ((hA r hr).2 b hb)).2).trans (List.map_id _)
  rw[this]
theorem zjx {l:List UInt8} {W H:Nat} {p:List Int} (h:zbj ⟨W,H,p⟩=0) (e:zct ((List.range H).map (zbx p W))=l):zlg l:=by
 obtain⟨e1,e2,e3,e4⟩:=za8 h
 simp only at e1 e2 e3
 have e3':p.length=H*W:=by rw[Nat.mul_comm];exact_mod_cast e3
 let L:=((List.range H).map (zbx p W)).map (·.map zjs)
 have hL:∀r∈L,r.length=W∧∀b∈r,0≤sgn b∧b≠10:=fun r hr=>by
  obtain⟨c,hc,rfl⟩:=List.mem_map.1 hr
  obtain⟨k,hk,rfl⟩:=List.mem_map.1 hc
  refine⟨by rw[List.length_map];exact zc6 p W H k e3' (List.mem_range.1 hk),fun b hb => ?_⟩
  obtain⟨q,hq,rfl⟩:=List.mem_map.1 hb
  have hq4:=e4 q (List.mem_of_mem_drop (List.mem_of_mem_take hq))
  obtain⟨s1,s2⟩:=zon hq4
  exact⟨by rw[s1];exact hq4.1,s2⟩
 have hl:l=L.flatMap (· ++ [10]):=by
  rw[←e];unfold zct;exact(List.flatMap_map (fun c:List Int=>c.map zjs) (fun r:List UInt8=>r ++ [10]) _).symm
 obtain⟨h1,h2,h3⟩:=ziv L fun r hr b hb=>((hL r hr).2 b hb).2
 rw[←hl]at h1 h2 h3
 have hLl:L.length=H:=by simp[L]
 rw[hLl]at h1 h2 h3
 have g:=fun k (hk:k<H)=>hL _ (h3 k hk)
 have g0:(zaf l).length=W:=(g 0 (by omega)).1
 unfold zlg
 rw[h1,g0]
 exact⟨by omega,h2,by omega,fun k hk=>⟨(g k hk).1,fun b hb=>((g k hk).2 b hb).1⟩⟩
theorem zj5 (e:Int):Wk (.tup [zo2,I .i64 e]) (.tup [zdt ⟨0,0,[]⟩,I .i64 e]):=Wk.tup ⟨Wk.agg ⟨Wk.refl _,Wk.refl _,Wk.nil 1,trivial⟩,Wk.refl _,trivial⟩
theorem zeh (s:ByteArray) (hs:s.size≤1048576):∃(F:Fld) (e:Int),Spec Tryd.prog 6 [S s] [] (.tup [zdt F,I .i64 e]) []∧Spec Tryd.prog 7 [S s] [] (.tup [zdt F,I .i64 e]) []∧F.p.length≤1048576:=by
 obtain⟨l,rfl⟩:∃l,s=zan l:=⟨s.data.toList,by apply ByteArray.ext;simp[zan]⟩
 have hl:l.length≤1048576:=by rw[←zao];exact hs
 by_cases g:zlg l
 ·have hF:=ze5 g
  obtain⟨w1,w2⟩:=zje g
  rw[hF]at w1
  have hW:=zdz _ _ _ w1
  rw[w2]at hW
  obtain⟨h1,h2,h3,h4⟩:=g
  have R:=zmn (zan l) hs (by rw[hF];exact hW)
  rw[hF]at R
  refine⟨_,0,R,zji l hl (l.count 10) _ rfl h1 h2 rfl h3 h4,?_⟩
  have pl:=zbq (l.count 10) l (W:=(zaf l).length) fun k hk=>(h4 k hk).1
  have pk:l.count 10*(zaf l).length≤40*40:=Nat.mul_le_mul (by omega) (by omega)
  simp only;omega
 ·refine⟨⟨0,0,[]⟩,4,Spec.wk0 ?_ (zj5 4),Spec.wk0 ?_ (zj5 4),by simp⟩
  ·have hpl:(zbw (zan l)).p.length≤9223372036854775807:=by
    have:=zej l
    unfold zbw;simp only[zb5];omega
   by_cases hE:zbj (zbw (zan l))=0
   ·have hok:=za8 hE
    obtain⟨W,hW⟩:∃W:Nat,(zbw (zan l)).w=W:=⟨(zbw (zan l)).w.toNat,by omega⟩
    obtain⟨H,hH⟩:∃H:Nat,(zbw (zan l)).h=H:=⟨(zbw (zan l)).h.toNat,by omega⟩
    have eF:zbw (zan l)=⟨W,H,(zbw (zan l)).p⟩:=by rw[←hW,←hH]
    rw[eF]at hE
    refine zkq (zan l) hs _ 0 (by rw[eF];exact zdz W H _ hE) (.inr fun e=>g (zjx hE ?_))
    have:=congrArg (fun s:ByteArray=>s.data.toList) e
    simpa only[zb5]using this
   ·exact zkq (zan l) hs _ _ (zgf _ hpl hE) (.inl hE)
  ·by_cases he:(1≤l.count 10∧l.count 10≤40)∧zae (l.count 10) l = []∧1≤(zaf l).length∧(zaf l).length≤40
   ·exact zkb l hl (l.count 10) _ rfl he.1 he.2.1 rfl he.2.2 fun hb=>g ⟨he.1,he.2.1,he.2.2,hb⟩
   ·exact zhl l hl _ rfl he
theorem Spec.arg0 {P:Program} {f:FuncId} {args args':List AV} {r:AV} (S:Spec P f args' [] r []) (hw:WkL args args'):Spec P f args [] r []:=by
 obtain⟨S0,S1,S⟩:=S
 exact⟨S0,S1,fun w F β vs M hv=>S w F β vs M (hw.run hv)⟩
theorem zkd {W H:Nat} {p:List Int} (h:zbj ⟨W,H,p⟩=0):zct ((List.range H).map (zbx p W))=zdx ⟨W,H,p⟩ H:=by
 obtain⟨e1,e2,e3,e4⟩:=za8 h
 simp only at e1 e2 e3
 have e3':p.length=H*W:=by rw[Nat.mul_comm];exact_mod_cast e3
 unfold zct zdx
 rw[List.flatMap_map]
 refine congrArg List.flatten (List.map_congr_left fun j hj=>congrArg (· ++ [10]) ?_)
 have hj:=List.mem_range.1 hj
 have hl:=zc6 p W H j e3' hj
 unfold zl9 zaz
 simp only[Int.toNat_natCast]
 refine List.ext_getElem (by rw[List.length_map,hl,List.length_map,List.length_range]) fun x h1 h2 => ?_
 rw[List.length_map,hl]at h1
 have hlt:j*W+x<p.length:=by
  have:(j+1)*W≤H*W:=Nat.mul_le_mul_right _ hj
  rw[Nat.add_mul]at this;omega
 have ec:((j:Int)*(W:Int)+(x:Int)).toNat=j*W+x:=by
  rw[show (j:Int)*(W:Int)+(x:Int)=((j*W+x:Nat):Int)by push_cast;rfl,Int.toNat_natCast]
 simp only[List.getElem_map,List.getElem_range,ec]
 congr 1
 rw[zcx _ _ hlt]
 simp only[zbx,List.getElem_take,List.getElem_drop]
theorem zqs:Spec Tryd.prog 12 [zo2,zo2] [] (B true) [] :=
 (zgq ⟨0,0,[]⟩ ⟨0,0,[]⟩ (by simp) (by simp)).arg0 ⟨Wk.agg ⟨Wk.refl _,Wk.refl _,Wk.nil 1,trivial⟩,Wk.agg ⟨Wk.refl _,Wk.refl _,Wk.nil 1,trivial⟩,trivial⟩
theorem zkj (F:Fld) (h:F.p.length≤1048576):Spec Tryd.prog 12 [zdt F,zdt F] [] (B true) []:=by
 have:=zgq F F (by omega) (by omega)
 simpa using this
theorem zj9 {W H k:Nat} {p:List Int} (h:zbj ⟨W,H,p⟩=0) (hk:k<W*H):((zcm ⟨W,H,p⟩ (W*H)).map zav).getD k []=zav (zaz ⟨W,H,p⟩ ⟨(k:Int)/(H:Int),(H:Int)-1-(k:Int) % (H:Int)⟩)∧(0≤(k:Int)/(H:Int)∧(k:Int)/(H:Int)<W)∧(0≤(k:Int) % (H:Int)∧(k:Int) % (H:Int)<H)∧inF ⟨W,H,p⟩ ⟨(k:Int)/(H:Int),(H:Int)-1-(k:Int) % (H:Int)⟩=true:=by
 obtain⟨e1,e2,e3,e4⟩:=za8 h
 simp only at e1 e2 e3
 have d1:k/H<W:=Nat.div_lt_of_lt_mul (by rw[Nat.mul_comm];exact hk)
 have d2:k % H<H:=Nat.mod_lt _ (by omega)
 have c1:(k:Int)/(H:Int)=((k/H:Nat):Int):=rfl
 have c2:(k:Int) % (H:Int)=((k % H:Nat):Int):=rfl
 rw[c1,c2]
 generalize hx:k/H=x at *
 generalize hy:k % H=y at *
 refine⟨?_,by omega,by omega,inF_iff.2 ⟨⟨by simp only;omega,by simp only;omega⟩,by simp only;omega,by simp only;omega⟩⟩
 unfold zcm zjg
 simp[hk,hx,hy,←c1,←c2]
theorem zqa (f:Fld) (s:ByteArray) (c:Cel) (hf:f.p.length≤9223372036854775807) (hs:s.size≤1048576) (h:zbj f≠0):Spec Tryd.prog 3 [zdt f,S s,znz c] [] (B true) []:=by
 obtain⟨F,e,R1,R2,hF⟩:=zeh s hs
 have hW:=zgf f hf h
 have hT:=zli f hf h
 have hA:=zq6 f c hf
 have hU:=zme f hf h
 have hR:=zc8 f hf
 have hC:=zbs f hf
 have hS:=zkj F hF
 unfold atV at hA
 rw[if_pos h]at hA
 generalize zbj f=r at *
 refine spB Tryd.func3 165 [.tmp 6] Tryd.results3 ?_
 (iterate 2((try simp(etaStruct := .none)only[push_cast,seval]);(try(refine xsu ?_;try exact xtI))))
 refine caP (hW) ?_
 (iterate 2((try simp(etaStruct := .none)only[push_cast,seval]);(try(refine xsu ?_;try exact xtI))))
 refine caP (hT) ?_
 (iterate 2((try simp(etaStruct := .none)only[push_cast,seval]);(try(refine xsu ?_;try exact xtI))))
 refine caP (R1) ?_
 (iterate 2((try simp(etaStruct := .none)only[push_cast,seval]);(try(refine xsu ?_;try exact xtI))))
 refine caP (R2) ?_
 (iterate 2((try simp(etaStruct := .none)only[push_cast,seval]);(try(refine xsu ?_;try exact xtI))))
 refine caP (hA) ?_
 (iterate 2((try simp(etaStruct := .none)only[push_cast,seval]);(try(refine xsu ?_;try exact xtI))))
 refine caP (hU) ?_
 (iterate 2((try simp(etaStruct := .none)only[push_cast,seval]);(try(refine xsu ?_;try exact xtI))))
 refine caP (hR) ?_
 (iterate 2((try simp(etaStruct := .none)only[push_cast,seval]);(try(refine xsu ?_;try exact xtI))))
 refine caP (hC) ?_
 (iterate 2((try simp(etaStruct := .none)only[push_cast,seval]);(try(refine xsu ?_;try exact xtI))))
 refine gcP (fun hcc=>hS) ?_
 (iterate 2((try simp(etaStruct := .none)only[push_cast,seval]);(try(refine xsu ?_;try exact xtI))))
 refine cI (fun h1 => ?_) fun h1 => ?_
 ·exact absurd h1 (by simp)
 ·(iterate 2((try simp(etaStruct := .none)only[push_cast,seval]);(try(refine xsu ?_;try exact xtI))))
  refine cI (fun h2 => ?_) fun h2 => ?_
  ·(iterate 2((try simp(etaStruct := .none)only[push_cast,seval]);(try(refine xsu ?_;try exact xtI))))
   refine gcP (fun hcc=>zqs) ?_
   (iterate 2((try simp(etaStruct := .none)only[push_cast,seval]);(try(refine xsu ?_;try exact xtI))))
   exact xrz rfl
  ·exact absurd h2 h
theorem zp9 (W H:Nat) (p:List Int) (s:ByteArray) (c:Cel) (hs:s.size≤1048576) (h:zbj ⟨W,H,p⟩=0) (hi:inF ⟨W,H,p⟩ c=false):Spec Tryd.prog 3 [zdt ⟨W,H,p⟩,S s,znz c] [] (B true) []:=by
 obtain⟨F,e,R1,R2,hF⟩:=zeh s hs
 obtain⟨e1,e2,e3,e4⟩:=za8 h
 simp only at e1 e2 e3
 have hWH:W*H≤40*40:=Nat.mul_le_mul (by omega) (by omega)
 have e3':p.length=W*H:=by exact_mod_cast e3
 have hf:p.length≤9223372036854775807:=by omega
 have hW:=zdz W H p h
 rw[zkd h]at hW
 have hT:=zi2 W H p h
 have hA:=zq6 ⟨W,H,p⟩ c hf
 have hU:=zj8 W H p h
 have hR:=zc8 ⟨W,H,p⟩ hf
 have hC:=zbs ⟨W,H,p⟩ hf
 have hS:=zkj F hF
 have tl:=zah ⟨W,H,p⟩ (W*H)
 have hI:=zrc ⟨W,H,p⟩ c ⟨by simp only;omega,by simp only;omega⟩ ⟨by simp only;omega,by simp only;omega⟩
 unfold atV at hA
 rw[if_neg (by simp[h]),hi]at hA
 rw[h]at hR hC
 rw[hi]at hI
 generalize zdx ⟨W,H,p⟩ H=t at *
 refine spB Tryd.func3 165 [.tmp 6] Tryd.results3 ?_
 (iterate 2((try simp(etaStruct := .none)only[push_cast,seval]);(try(refine xsu ?_;try exact xtI))))
 refine caP (hW) ?_
 (iterate 2((try simp(etaStruct := .none)only[push_cast,seval]);(try(refine xsu ?_;try exact xtI))))
 refine caP (hT) ?_
 (iterate 2((try simp(etaStruct := .none)only[push_cast,seval]);(try(refine xsu ?_;try exact xtI))))
 refine caP (R1) ?_
 (iterate 2((try simp(etaStruct := .none)only[push_cast,seval]);(try(refine xsu ?_;try exact xtI))))
 refine caP (R2) ?_
 (iterate 2((try simp(etaStruct := .none)only[push_cast,seval]);(try(refine xsu ?_;try exact xtI))))
 refine caP (hA) ?_
 (iterate 2((try simp(etaStruct := .none)only[push_cast,seval]);(try(refine xsu ?_;try exact xtI))))
 refine caP (hU) ?_
 (iterate 2((try simp(etaStruct := .none)only[push_cast,seval]);(try(refine xsu ?_;try exact xtI))))
 refine caP (hR) ?_
 (iterate 2((try simp(etaStruct := .none)only[push_cast,seval]);(try(refine xsu ?_;try exact xtI))))
 refine caP (hC) ?_
 (iterate 2((try simp(etaStruct := .none)only[push_cast,seval]);(try(refine xsu ?_;try exact xtI))))
 refine gcP (fun hcc=>hS) ?_
 (iterate 2((try simp(etaStruct := .none)only[push_cast,seval]);(try(refine xsu ?_;try exact xtI))))
 refine cI (fun h1 => ?_) fun h1 => ?_
 ·exact absurd h1 (by simp)
 ·(iterate 2((try simp(etaStruct := .none)only[push_cast,seval]);(try(refine xsu ?_;try exact xtI))))
  refine cI (fun h2 => ?_) fun h2 => ?_
  ·exact absurd h2 (by simp)
  ·(iterate 2((try simp(etaStruct := .none)only[push_cast,seval]);(try(refine xsu ?_;try exact xtI))))
   refine caP (hI) ?_
   (iterate 2((try simp(etaStruct := .none)only[push_cast,seval]);(try(refine xsu ?_;try exact xtI))))
   refine cI (fun h3 => ?_) fun h3 => ?_
   ·(iterate 2((try simp(etaStruct := .none)only[push_cast,seval]);(try(refine xsu ?_;try exact xtI))))
    refine cI (fun h4 => ?_) fun h4 => ?_
    ·exact absurd h4 (by simp)
    ·(iterate 2((try simp(etaStruct := .none)only[push_cast,seval]);(try(refine xsu ?_;try exact xtI))))
     refine cI (fun h5 => ?_) fun h5 => ?_
     ·exact absurd (by omega) h5
     ·(iterate 2((try simp(etaStruct := .none)only[push_cast,seval]);(try(refine xsu ?_;try exact xtI))))
      refine zcb (fun k:Nat=>⟨[(142,I .i64 k),(141,I .i64 (W*H:Nat)),(140,.c (.sl 1 ((zcm ⟨W,H,p⟩ (W*H)).map zav))),(17,.ptr 1 0 0),(3,.ptr 0 0 0)],[(0,.blk 24 [I .i64 W,I .i64 H,.c (.sl 1 (p.map zav))]),(1,.blk 24 [I .i64 H,I .i64 W,.c (.sl 1 ((zcm ⟨W,H,p⟩ (W*H)).map zav))])],2⟩) (fun k:Nat=>k≤W*H) (fun k:Nat=>W*H-k) (0) (Nat.zero_le _) (To.mk [0,4] rfl rfl (by decide) ?_ ?_) ?_
      ·simp(etaStruct := .none)only[push_cast,zab,seval]
      ·simp(etaStruct := .none)only[push_cast,zab,seval,zah]
      rintro k hk
      (iterate 2((try simp(etaStruct := .none)only[push_cast,seval]);(try(refine xsu ?_;try exact xtI))))
      refine cI (fun h6 => ?_) fun h6 => ?_
      ·have hlt:k<W*H:=by omega
       obtain⟨gk,d1,d2,d3⟩:=zj9 h hlt
       (iterate 2((try simp(etaStruct := .none)only[push_cast,seval,zah,gk,zav]);(try(refine xsu ?_;try exact xtI))))
       refine zf7 [some 147,some 148,some 149,some 150,some 151,some 152,some 153,some 154,some 155,some 156,some 157,some 158,some 159,some 160,some 161,some 162,some 163] rfl ?_
       intro Oq lq Rq hlq hdq hRq
       subst hlq
       iterate 15(refine zgy fun rq hrq => ?_;(iterate 2((try simp(etaStruct := .none)only[push_cast,seval,hdq,id,zah,gk,zav]);(try(refine xsu ?_;try exact xtI))));subst hrq)
       refine zgy fun rq hrq => ?_
       (iterate 2((try simp(etaStruct := .none)only[push_cast,seval,hdq,id,zah,gk,zav]);(try(refine xsu ?_;try exact xtI))))
       refine caP (zfq ⟨W,H,p⟩ ⟨(k:Int)/(H:Int),(H:Int)-1-(k:Int) % (H:Int)⟩ h d3) ?_
       (iterate 2((try simp(etaStruct := .none)only[push_cast,seval,hdq,id,zah,gk,zav]);(try(refine xsu ?_;try exact xtI))))
       subst hrq
       iterate 1(refine zgy fun rq hrq => ?_;(iterate 2((try simp(etaStruct := .none)only[push_cast,seval,hdq,id,zah,gk,zav]);(try(refine xsu ?_;try exact xtI))));subst hrq)
       refine zqn ?_
       subst hRq
       clear hdq Oq
       refine zqm (by kernel_rfl) ?_
       (iterate 2((try simp(etaStruct := .none)only[push_cast,seval,zah,gk,zav]);(try(refine xsu ?_;try exact xtI))))
       refine cI (fun h7 => ?_) fun h7 => ?_
       ·(iterate 2((try simp(etaStruct := .none)only[push_cast,seval,zah,gk,zav]);(try(refine xsu ?_;try exact xtI))))
        exact xrz rfl
       ·(iterate 2((try simp(etaStruct := .none)only[push_cast,seval,zah,gk,zav]);(try(refine xsu ?_;try exact xtI))))
        refine⟨k+1,by omega,by omega,To.mk [0,1] rfl rfl (by decide) ?_ ?_⟩
        ·(iterate 2((try simp(etaStruct := .none)only[push_cast,seval,zah,gk,zav]);(try(refine xsu ?_;try exact xtI))))
        ·(iterate 2((try simp(etaStruct := .none)only[push_cast,seval,zah,gk,zav]);(try(refine xsu ?_;try exact xtI))))
      ·(iterate 2((try simp(etaStruct := .none)only[push_cast,seval]);(try(refine xsu ?_;try exact xtI))))
       exact xrz rfl
   ·exact absurd h3 (by simp)
theorem zq2 (W H:Nat) (p:List Int) (s:ByteArray) (c:Cel) (hs:s.size≤1048576) (h:zbj ⟨W,H,p⟩=0) (hi:inF ⟨W,H,p⟩ c=true):Spec Tryd.prog 3 [zdt ⟨W,H,p⟩,S s,znz c] [] (B true) []:=by
 obtain⟨F,e,R1,R2,hF⟩:=zeh s hs
 obtain⟨e1,e2,e3,e4⟩:=za8 h
 simp only at e1 e2 e3
 have hWH:W*H≤40*40:=Nat.mul_le_mul (by omega) (by omega)
 have e3':p.length=W*H:=by exact_mod_cast e3
 have hf:p.length≤9223372036854775807:=by omega
 have hW:=zdz W H p h
 rw[zkd h]at hW
 have hT:=zi2 W H p h
 have hA:=zq6 ⟨W,H,p⟩ c hf
 have hU:=zj8 W H p h
 have hR:=zc8 ⟨W,H,p⟩ hf
 have hC:=zbs ⟨W,H,p⟩ hf
 have hS:=zkj F hF
 have tl:=zah ⟨W,H,p⟩ (W*H)
 have hI:=zrc ⟨W,H,p⟩ c ⟨by simp only;omega,by simp only;omega⟩ ⟨by simp only;omega,by simp only;omega⟩
 unfold atV at hA
 rw[if_neg (by simp[h]),hi]at hA
 rw[h]at hR hC
 rw[hi]at hI
 generalize zdx ⟨W,H,p⟩ H=t at *
 refine spB Tryd.func3 165 [.tmp 6] Tryd.results3 ?_
 (iterate 2((try simp(etaStruct := .none)only[push_cast,seval]);(try(refine xsu ?_;try exact xtI))))
 refine caP (hW) ?_
 (iterate 2((try simp(etaStruct := .none)only[push_cast,seval]);(try(refine xsu ?_;try exact xtI))))
 refine caP (hT) ?_
 (iterate 2((try simp(etaStruct := .none)only[push_cast,seval]);(try(refine xsu ?_;try exact xtI))))
 refine caP (R1) ?_
 (iterate 2((try simp(etaStruct := .none)only[push_cast,seval]);(try(refine xsu ?_;try exact xtI))))
 refine caP (R2) ?_
 (iterate 2((try simp(etaStruct := .none)only[push_cast,seval]);(try(refine xsu ?_;try exact xtI))))
 refine caP (hA) ?_
 (iterate 2((try simp(etaStruct := .none)only[push_cast,seval]);(try(refine xsu ?_;try exact xtI))))
 refine caP (hU) ?_
 (iterate 2((try simp(etaStruct := .none)only[push_cast,seval]);(try(refine xsu ?_;try exact xtI))))
 refine caP (hR) ?_
 (iterate 2((try simp(etaStruct := .none)only[push_cast,seval]);(try(refine xsu ?_;try exact xtI))))
 refine caP (hC) ?_
 (iterate 2((try simp(etaStruct := .none)only[push_cast,seval]);(try(refine xsu ?_;try exact xtI))))
 refine gcP (fun hcc=>hS) ?_
 (iterate 2((try simp(etaStruct := .none)only[push_cast,seval]);(try(refine xsu ?_;try exact xtI))))
 refine cI (fun h1 => ?_) fun h1 => ?_
 ·exact absurd h1 (by simp)
 ·(iterate 2((try simp(etaStruct := .none)only[push_cast,seval]);(try(refine xsu ?_;try exact xtI))))
  refine cI (fun h2 => ?_) fun h2 => ?_
  ·exact absurd h2 (by simp)
  ·(iterate 2((try simp(etaStruct := .none)only[push_cast,seval]);(try(refine xsu ?_;try exact xtI))))
   refine caP (hI) ?_
   (iterate 2((try simp(etaStruct := .none)only[push_cast,seval]);(try(refine xsu ?_;try exact xtI))))
   refine cI (fun h3 => ?_) fun h3 => ?_
   ·exact absurd h3 (by simp)
   ·(iterate 2((try simp(etaStruct := .none)only[push_cast,seval]);(try(refine xsu ?_;try exact xtI))))
    refine caP (zfq ⟨W,H,p⟩ c h hi) ?_
    (iterate 2((try simp(etaStruct := .none)only[push_cast,seval]);(try(refine xsu ?_;try exact xtI))))
    refine cI (fun h4 => ?_) fun h4 => ?_
    ·exact absurd h4 (by simp)
    ·(iterate 2((try simp(etaStruct := .none)only[push_cast,seval]);(try(refine xsu ?_;try exact xtI))))
     refine cI (fun h5 => ?_) fun h5 => ?_
     ·exact absurd (by omega) h5
     ·(iterate 2((try simp(etaStruct := .none)only[push_cast,seval]);(try(refine xsu ?_;try exact xtI))))
      refine zcb (fun k:Nat=>⟨[(142,I .i64 k),(141,I .i64 (W*H:Nat)),(140,.c (.sl 1 ((zcm ⟨W,H,p⟩ (W*H)).map zav))),(17,.ptr 1 0 0),(3,.ptr 0 0 0)],[(0,.blk 24 [I .i64 W,I .i64 H,.c (.sl 1 (p.map zav))]),(1,.blk 24 [I .i64 H,I .i64 W,.c (.sl 1 ((zcm ⟨W,H,p⟩ (W*H)).map zav))])],2⟩) (fun k:Nat=>k≤W*H) (fun k:Nat=>W*H-k) (0) (Nat.zero_le _) (To.mk [0,4] rfl rfl (by decide) ?_ ?_) ?_
      ·simp(etaStruct := .none)only[push_cast,zab,seval]
      ·simp(etaStruct := .none)only[push_cast,zab,seval,zah]
      rintro k hk
      (iterate 2((try simp(etaStruct := .none)only[push_cast,seval]);(try(refine xsu ?_;try exact xtI))))
      refine cI (fun h6 => ?_) fun h6 => ?_
      ·have hlt:k<W*H:=by omega
       obtain⟨gk,d1,d2,d3⟩:=zj9 h hlt
       (iterate 2((try simp(etaStruct := .none)only[push_cast,seval,zah,gk,zav]);(try(refine xsu ?_;try exact xtI))))
       refine zf7 [some 147,some 148,some 149,some 150,some 151,some 152,some 153,some 154,some 155,some 156,some 157,some 158,some 159,some 160,some 161,some 162,some 163] rfl ?_
       intro Oq lq Rq hlq hdq hRq
       subst hlq
       iterate 15(refine zgy fun rq hrq => ?_;(iterate 2((try simp(etaStruct := .none)only[push_cast,seval,hdq,id,zah,gk,zav]);(try(refine xsu ?_;try exact xtI))));subst hrq)
       refine zgy fun rq hrq => ?_
       (iterate 2((try simp(etaStruct := .none)only[push_cast,seval,hdq,id,zah,gk,zav]);(try(refine xsu ?_;try exact xtI))))
       refine caP (zfq ⟨W,H,p⟩ ⟨(k:Int)/(H:Int),(H:Int)-1-(k:Int) % (H:Int)⟩ h d3) ?_
       (iterate 2((try simp(etaStruct := .none)only[push_cast,seval,hdq,id,zah,gk,zav]);(try(refine xsu ?_;try exact xtI))))
       subst hrq
       iterate 1(refine zgy fun rq hrq => ?_;(iterate 2((try simp(etaStruct := .none)only[push_cast,seval,hdq,id,zah,gk,zav]);(try(refine xsu ?_;try exact xtI))));subst hrq)
       refine zqn ?_
       subst hRq
       clear hdq Oq
       refine zqm (by kernel_rfl) ?_
       (iterate 2((try simp(etaStruct := .none)only[push_cast,seval,zah,gk,zav]);(try(refine xsu ?_;try exact xtI))))
       refine cI (fun h7 => ?_) fun h7 => ?_
       ·(iterate 2((try simp(etaStruct := .none)only[push_cast,seval,zah,gk,zav]);(try(refine xsu ?_;try exact xtI))))
        exact xrz rfl
       ·(iterate 2((try simp(etaStruct := .none)only[push_cast,seval,zah,gk,zav]);(try(refine xsu ?_;try exact xtI))))
        refine⟨k+1,by omega,by omega,To.mk [0,1] rfl rfl (by decide) ?_ ?_⟩
        ·(iterate 2((try simp(etaStruct := .none)only[push_cast,seval,zah,gk,zav]);(try(refine xsu ?_;try exact xtI))))
        ·(iterate 2((try simp(etaStruct := .none)only[push_cast,seval,zah,gk,zav]);(try(refine xsu ?_;try exact xtI))))
      ·(iterate 2((try simp(etaStruct := .none)only[push_cast,seval]);(try(refine xsu ?_;try exact xtI))))
       exact xrz rfl
theorem zqb (f:Fld) (s:ByteArray) (c:Cel) (hf:f.p.length≤9223372036854775807) (hs:s.size≤1048576):Spec Tryd.prog 3 [zdt f,S s,znz c] [] (B true) []:=by
 by_cases h:zbj f=0
 ·have hok:=za8 h
  obtain⟨W,H,p,rfl⟩:∃(W H:Nat) (p:List Int),f=⟨W,H,p⟩:=by
   obtain⟨w,g,p⟩:=f
   simp only at hok
   obtain⟨W,rfl⟩:∃W:Nat,w=W:=⟨w.toNat,by omega⟩
   obtain⟨H,rfl⟩:∃H:Nat,g=H:=⟨g.toNat,by omega⟩
   exact⟨W,H,p,rfl⟩
  cases hi:inF ⟨W,H,p⟩ c with
  | false=>exact zp9 W H p s c hs h hi
  | true=>exact zq2 W H p s c hs h hi
 ·exact zqa f s c hf hs h
end Go.Proofs.YthlcafpcndagcaaDoor
namespace Go.Proofs.YthlcafpcndagcaaDoor
set_option linter.all false
open Go.RowKit Go.ChangeShapes Go.WideShapes Go.ChangeAt
def RelCs (w:World) (ps:List PV) (cs:List Value):Prop:=∀(j:Nat) p u,ps[j]? = some p→cs[j]? = some u→RelP w (· < w.heap.size) p u
theorem RelCs.nil {w:World} : RelCs w [] []:=fun j p u h=>by simp at h
theorem RelCs.cons {w:World} {p:PV} {u:Value} {ps:List PV} {cs:List Value} (h:RelP w (· < w.heap.size) p u) (h':RelCs w ps cs):RelCs w (p::ps) (u::cs):=by
 intro j q v h1 h2
 cases j with
 | zero=>simp at h1 h2;subst h1 h2;exact h
 | succ j=>exact h' j q v (by simpa using h1) (by simpa using h2)
theorem RelCs.append {w:World} : ∀ {ps qs:List PV} {cs ds:List Value},ps.length=cs.length→RelCs w ps cs→RelCs w qs ds→RelCs w (ps++qs) (cs++ds)
 | [],_,[],_,_,_,h=>h
 | [],_,_::_,_,hl,_,_=>by simp at hl
 | _::_,_,[],_,hl,_,_=>by simp at hl
 | p::ps,qs,c::cs,ds,hl,h,h'=>by
  refine RelCs.cons (h 0 p c rfl rfl) (RelCs.append (by simpa using hl) (fun j q v h1 h2=>h (j+1) q v (by simpa using h1) (by simpa using h2)) h')
def OpA (P:Program) (T sz:Nat) (w:World) {α : Type} (pv : α → List PV) (ok : α → Prop):Prop :=
 ∃(β : Type) (enc : β → List Value) (okb : β → Prop) (f : β → α),Opens P T sz w enc okb∧∀y,okb y→ok (f y)∧(pv (f y)).length=sz∧(enc y).length=sz∧RelCs w (pv (f y)) (enc y)
section
variable {P : Program} {T : Nat} {w : World}
theorem OpA.i64 (h:P.underlying T=some (.int .i64)):OpA P T 1 w zav zmc :=
 ⟨_,_,_,id,Opens.i64 h,fun y hy=>⟨hy,rfl,rfl,.cons (zic rfl) .nil⟩⟩
def zrg (n:Nat):List PV := [.v (.int .u32 n)]
theorem OpA.u32 (h:P.underlying T=some (.int .u32)):OpA P T 1 w zrg (fun n=>n<4294967296) :=
 ⟨_,_,_,id,Opens.u32 h,fun y hy=>⟨hy,rfl,rfl,.cons (zic rfl) .nil⟩⟩
theorem OpA.bool (h:P.underlying T=some .bool):OpA P T 1 w zq5 (fun _=>True) :=
 ⟨_,_,_,id,Opens.bool h,fun y hy=>⟨hy,rfl,rfl,.cons (zic rfl) .nil⟩⟩
theorem OpA.str (h:P.underlying T=some .string):OpA P T 1 w zrt (fun s=>s.size≤140737488351232) :=
 ⟨_,_,_,id,Opens.str h,fun y hy=>⟨hy,rfl,rfl,.cons (zic rfl) .nil⟩⟩
theorem OpA.map {sz:Nat} {α β : Type} {pv : α → List PV} {ok : α → Prop} {pv' : β → List PV} {ok' : β → Prop} (h:OpA P T sz w pv ok) (f : α → β) (hf:∀x,pv' (f x)=pv x) (hok:∀x,ok x→ok' (f x)):OpA P T sz w pv' ok':=by
 obtain⟨γ,enc,okb,g,h1,h2⟩:=h
 exact⟨γ,enc,okb,fun y=>f (g y),h1,fun y hy=>by obtain⟨a,b,c,d⟩:=h2 y hy;exact⟨hok _ a,by rw[hf];exact b,c,by rw[hf];exact d⟩⟩
theorem OpA.slice {E sz bts:Nat} {α : Type} {pv : α → List PV} {ok : α → Prop} (hT:P.underlying T=some (.slice E)) (hc:P.cellsOf E=sz) (hsz:0<sz) (hby:P.bytesOf E=bts) (hE:OpA P E sz w pv ok) :
 OpA P T 1 w (fun xs:List α => [.sl sz (xs.map pv)]) (fun xs=>(∀x∈xs,ok x)∧xs.length*bts≤140737488351232∧xs.length≤9223372036854775807):=by
 obtain⟨γ,enc,okb,g,h1,h2⟩:=hE
 refine⟨_,_,_,fun s=>s.xs.map g,Opens.slice hT hc hsz hby h1,fun s hs=>⟨⟨?_,?_,?_⟩,rfl,rfl,?_⟩⟩
 ·intro x hx
  obtain⟨y,hy,rfl⟩:=List.mem_map.1 hx
  exact(h2 y (hs.each y hy).1).1
 ·have:=hs.reach
  have h3:s.xs.length*bts≤s.c*bts:=Nat.mul_le_mul_right _ hs.cap
  simp only[List.length_map];omega
 ·have h3:=hs.cap;have h4:=hs.max;unfold maxLen at h4;simp only[List.length_map];omega
 ·refine .cons ?_ .nil
  have:=zpq (pv:=fun y=>pv (g y)) hs fun y hy ho=>by
   obtain⟨_,a,b,d⟩:=h2 y ho
   exact⟨a,d⟩
  simpa[List.map_map,Function.comp_def]using this
def OpAF (P:Program) (w:World) (fs:List Field) (o sz:Nat) {α : Type} (pv : α → List PV) (ok : α → Prop):Prop :=
 ∃(β : Type) (enc : β → List Value) (okb : β → Prop) (f : β → α),OpensF P w fs o sz enc okb∧∀y,okb y→ok (f y)∧(pv (f y)).length=sz∧(enc y).length=sz∧RelCs w (pv (f y)) (enc y)
theorem OpAF.nil {o:Nat} : OpAF P w [] o 0 (fun _:Unit => []) (fun _=>True) :=
 ⟨_,_,_,id,OpensF.nil,fun y hy=>⟨trivial,rfl,rfl,.nil⟩⟩
theorem OpAF.cons {f:Field} {fs:List Field} {o n sz:Nat} {α β : Type} {pv : α → List PV} {ok : α → Prop} {pv' : β → List PV} {ok' : β → Prop}
 (ho:f.offset=o) (hn:P.cellsOf f.type=n) (h:OpA P f.type n w pv ok) (h':OpAF P w fs (o+n) sz pv' ok') :
 OpAF P w (f::fs) o (n+sz) (fun x : α × β => pv x.1++pv' x.2) (fun x=>ok x.1∧ok' x.2):=by
 obtain⟨γ,enc,okb,g,h1,h2⟩:=h
 obtain⟨γ',enc',okb',g',h1',h2'⟩:=h'
 refine⟨_,_,_,fun y=>(g y.1,g' y.2),OpensF.cons ho hn h1 h1',fun y hy => ?_⟩
 obtain⟨a,b,c,d⟩:=h2 y.1 hy.1
 obtain⟨a',b',c',d'⟩:=h2' y.2 hy.2
 exact⟨⟨a,a'⟩,by simp[b,b'],by simp[c,c'],.append (by rw[b,c]) d d'⟩
theorem OpA.struct {sz:Nat} {fs:Array Field} {α : Type} {pv : α → List PV} {ok : α → Prop} (hT:P.underlying T=some (.struct fs)) (hc:P.cellsOf T=sz) (h:OpAF P w fs.toList 0 sz pv ok):OpA P T sz w pv ok:=by
 obtain⟨γ,enc,okb,g,h1,h2⟩:=h
 exact⟨γ,enc,okb,g,Opens.struct hT hc h1,h2⟩
theorem OpA.arg {sz:Nat} {α : Type} {pv : α → List PV} {ok : α → Prop} (h:OpA P T sz w pv ok) {H:Type} {eH:TypeId × Value→H} {v:Value} {d:DataW H} {p:List MemPlace}
 (hT:DataW.Trod eH P w 0 (fun _=>true) true T v d p) {ts:List TypeId} {ds:List (DataW H)} (hz:(DataW.weightsEach P ts ds).all (· ≤ reachBytes)=true) (j:Nat) (h1:ts[j]? = some T) (h2:ds[j]? = some d):∃x : α,ok x∧(pv x).length=v.cells.toList.length∧RelCs w (pv x) v.cells.toList:=by
 obtain⟨γ,enc,okb,g,k1,k2⟩:=h
 obtain⟨y,hy,ho⟩:=Opens.arg k1 hT hz j h1 h2
 obtain⟨a,b,c,e⟩:=k2 y ho
 exact⟨g y,a,by rw[hy,b,c],by rw[hy];exact e⟩
theorem zob {p:PV} {v:Value} (hv:v.cells = #[v]) (hr:RelCs w [p] v.cells.toList):RelA (· < 0) w (· < w.heap.size) (fun _=>none) (.c p) v :=
 znp (hr 0 p v rfl (by rw[hv];rfl))
theorem ze3 {U:Nat→Prop} {β : Nat→Option Bind} : ∀ {ps:List PV} {cs:List Value},ps.length=cs.length→RelCs w ps cs→RelL U w (· < w.heap.size) β (ps.map .c) cs
 | [],[],_,_=>zif
 | [],_::_,h,_=>by simp at h
 | _::_,[],h,_=>by simp at h
 | p::ps,c::cs,h,hr=>by
  rw[List.map_cons]
  exact zc4 (znp (hr 0 p c rfl rfl)) (ze3 (by simpa using h) fun j q v h1 h2=>hr (j+1) q v (by simpa using h1) (by simpa using h2))
theorem zkp {ps:List PV} {v:Value} {cs:List Value} (hv:v = .agg cs.toArray) (hl:ps.length=v.cells.toList.length) (hr:RelCs w ps v.cells.toList):RelA (· < 0) w (· < w.heap.size) (fun _=>none) (.agg (ps.map .c)) v:=by
 subst hv
 have e:(Value.agg cs.toArray).cells.toList=cs:=rfl
 rw[e]at hl hr
 refine zmm (ze3 hl hr) fun x hx => ?_
 obtain⟨j,hj,rfl⟩:=List.getElem_of_mem hx
 exact(hr j ps[j] cs[j] (by simp) (by simp)).one
theorem zoh {base:Nat} {v:Value} (ht:P.underlying T=some .string) (h:Value.okWide P w .any base T v):v.cells = #[v]:=by obtain⟨n,rfl⟩:=okWide_string ht h;rfl
end
end Go.Proofs.YthlcafpcndagcaaDoor
namespace Go.Proofs.YthlcafpcndagcaaDoor
set_option linter.all false
open Go.RowKit Go.ChangeShapes Go.WideShapes Go.ChangeAt
set_option maxRecDepth 100000
theorem zpv (w:World):OpA Tryd.prog 22 1 w (fun xs:List Int => [.sl 1 (xs.map zav)]) (fun xs=>(∀x∈xs,zmc x)∧xs.length*8≤140737488351232∧xs.length≤9223372036854775807) :=
 OpA.slice Tryd.underlying22 (by kernel_rfl) (by decide) (by kernel_rfl) (OpA.i64 Tryd.underlying3)
theorem zqv (w:World):OpA Tryd.prog 26 2 w zry (fun c=>zmc c.x∧zmc c.y) :=
 (OpA.struct Tryd.underlying26 (by kernel_rfl) (OpAF.cons rfl rfl (OpA.i64 Tryd.underlying3) (OpAF.cons rfl rfl (OpA.i64 Tryd.underlying3) OpAF.nil))).map (fun x=>⟨x.1,x.2.1⟩) (fun _=>rfl) (fun _ h=>⟨h.1,h.2.1⟩)
def zrw (f:Fld):List PV := [pI f.w,pI f.h,.sl 1 (f.p.map zav)]
theorem zqu (w:World):OpA Tryd.prog 24 3 w zrw (fun f=>zmc f.w∧zmc f.h∧(∀x∈f.p,zmc x)∧f.p.length*8≤140737488351232∧f.p.length≤9223372036854775807) :=
 (OpA.struct Tryd.underlying24 (by kernel_rfl) (OpAF.cons rfl rfl (OpA.i64 Tryd.underlying3) (OpAF.cons rfl rfl (OpA.i64 Tryd.underlying3) (OpAF.cons rfl rfl (zpv w) OpAF.nil)))).map (fun x=>⟨x.1,x.2.1,x.2.2.1⟩) (fun _=>rfl) (fun _ h=>⟨h.1,h.2.1,h.2.2.1⟩)
end Go.Proofs.YthlcafpcndagcaaDoor
namespace Go.Proofs.YthlcafpcndagcaaDoor
set_option linter.all false
open Go.RowKit Go.ChangeShapes Go.WideShapes Go.ChangeAt
namespace fieldSays
theorem law (f:Fld) (s:ByteArray) (c:Cel) (h0:zmc f.w∧zmc f.h∧(∀x∈f.p,zmc x)∧f.p.length*8≤140737488351232∧f.p.length≤9223372036854775807) (hs:s.size≤1048576) :
 Spec Tryd.prog 3 [zdt f,S s,znz c] [] (B true) []:=zqb f s c h0.2.2.2.2 hs
theorem own:ownKnob Tryd.prog.godebug=none:=by kernel_rfl
theorem zhr:laidOutB Tryd.prog=true:=by kernel_rfl
def zq9 (l:List Nat):Obj→Obj
 | .cells _ t z => .cells (l.map fun (n:Nat)=>Value.int .u8 n).toArray t z
 | o=>o
def zpe:List Nat := [128,191,160,191,128,159,144,191,128,143]++List.replicate 22 0
def argsW:Array Value := #[.agg #[.int .i64 0,.int .i64 0,.slice none 0 0],.string ByteArray.empty,.agg #[.int .i64 0,.int .i64 0]]
set_option maxRecDepth 100000 in
theorem zq0 (os:Os) (H:Type) (enc:TypeId × Value→H):∃w0:World,w0.os=os ∧
 (w0.forCall (fun _ _=>0) ⟨#[],argsW,[]⟩).variablesB Tryd.checked.prog=true ∧
 ((w0.forCall (fun _ _=>0) ⟨#[],argsW,[]⟩).heap.toList.drop Tryd.checked.prog.globals.size).take ((begin Tryd.checked.prog (fun _ _=>0) default).world.heap.size-Tryd.checked.prog.globals.size) =
  (begin Tryd.checked.prog (fun _ _=>0) default).world.heap.toList.drop Tryd.checked.prog.globals.size ∧
 Input.okWideB Tryd.checked.prog (w0.forCall (fun _ _=>0) ⟨#[],argsW,[]⟩) 3 ⟨#[],argsW,[]⟩=true ∧
 laidMetH Tryd.prog Rows.fieldSaysUptoRow.laid (w0.forCall (fun _ _=>0) ⟨#[],argsW,[]⟩).memory ∧
 DataW.whole enc Tryd.prog (w0.forCall (fun _ _=>0) ⟨#[],argsW,[]⟩).memory Tryd.f3.params.toList Rows.fieldSaysSpec.vars false argsW.toList 8=some ([.agg [.lit (.int .i64 0),.lit (.int .i64 0),.nil],.lit (.string []),.agg [.lit (.int .i64 0),.lit (.int .i64 0)]],[],[]) ∧
 (Rows.OpenSpec.upto Rows.fieldSaysSpec).bare.sizedB enc Tryd.prog Tryd.f3 false (w0.forCall (fun _ _=>0) ⟨#[],argsW,[]⟩).memory argsW 8=true:=by
 refine⟨{ World.holding Tryd.prog os ⟨#[],#[],[]⟩with heap:=((World.holding Tryd.prog os ⟨#[],#[],[]⟩).heap.modify 1 (zq9 Go.Pinned.utf8FirstZ)).modify 2 (zq9 zpe) },rfl,?_,?_,?_,?_,?_,?_⟩
 ·kernel_rfl
 ·kernel_rfl
 ·kernel_rfl
 ·exact laidMet_of_run' 8 (by kernel_rfl) (by kernel_rfl)
 ·kernel_rfl
 ·kernel_rfl
set_option maxRecDepth 100000 in
theorem zp0 (os:Os) (started:os.Started) (H:Type) (enc:TypeId × Value→H) (F:Stop.Interp) :
 ReturnsInHanded {} Tryd.checked os 3 .any ((Rows.OpenSpec.upto Rows.fieldSaysSpec).preRow enc Tryd.prog Tryd.f3 Rows.fieldSaysUptoRow.domain false Rows.fieldSaysUptoRow.laid) (((Rows.OpenSpec.upto Rows.fieldSaysSpec).at F).post enc Tryd.prog Tryd.f3 false true false false):=by
 obtain⟨w0,e1,e2,e3,e4,e5,e6,e7⟩:=zq0 os H enc
 refine returnsInHanded_of_row (C:=Tryd.checked) (s:=Rows.OpenSpec.upto Rows.fieldSaysSpec) own started (by kernel_rfl) Tryd.func3
  (witness_row_at (enc:=enc) (C:=Tryd.checked) false w0 argsW e1 e2 e3 e4
   (OpenSpec.preRow_of_cond 8 e6 (by kernel_rfl) (fun k hk=>by cases hk;kernel_rfl) e7 e5)) ?_
 intro W base args ds gs before hval0 hW hcnd hcond hsz0 hL _ _
 have hk:Rows.uptoSmall H (ds++gs)=true:=hcond _ rfl
 have hval:∀(j:Nat) t v,Tryd.f3.params[j]? = some t→args[j]? = some v→Value.okWide Tryd.prog W .any base t v:=hval0
 have hW':=hW
 obtain⟨p,q,hA0,hV,rfl,hfz,hnd⟩:=hW
 have hA:DataW.TrodAll enc Tryd.prog W 0 (fun _=>true) true Tryd.f3.params.toList args.toList ds p:=hA0
 rw[Tryd.params3]at hA hval hsz0
 obtain⟨v0,vs0,d0,ds0,p0,q0,hargs,rfl,rfl,h0,r0⟩:=trodAll_cons hA
 obtain⟨v1,vs1,d1,ds1,p1,q1,rfl,rfl,rfl,h1,r1⟩:=trodAll_cons r0
 obtain⟨v2,vs2,d2,ds2,p2,q2,rfl,rfl,rfl,h2,r2⟩:=trodAll_cons r1
 obtain⟨rfl,rfl,rfl⟩:=trodAll_nil r2
 obtain rfl:args = #[v0,v1,v2]:=by cases args;simp_all
 obtain⟨rfl,rfl⟩:=trodVars_none hV
 have lt0:∀x∈p0,x.block<W.heap.size:=by obtain⟨m,hm⟩:=h0;exact DataW.trod_lt m _ _ _ hm
 obtain⟨x0,ok0,l0,q0r⟩:=OpA.arg (zqu W) h0 hsz0 0 rfl rfl
 have R0:=zkp (zfh (hval 0 24 v0 rfl rfl) Tryd.underlying24 rfl) l0 q0r
 have lt1:∀x∈p1,x.block<W.heap.size:=by obtain⟨m,hm⟩:=h1;exact DataW.trod_lt m _ _ _ hm
 obtain⟨x1,ok1,l1,q1r⟩:=OpA.arg (OpA.str Tryd.underlying9) h1 hsz0 1 rfl rfl
 have R1:=zob (zoh Tryd.underlying9 (hval 1 9 v1 rfl rfl)) q1r
 have sb1:x1.size≤1048576:=by
  have e:=R1
  simp only[RelA,RelP]at e
  exact zkf (e.1▸h1) Tryd.underlying9 hk (by simp)
 have lt2:∀x∈p2,x.block<W.heap.size:=by obtain⟨m,hm⟩:=h2;exact DataW.trod_lt m _ _ _ hm
 obtain⟨x2,ok2,l2,q2r⟩:=OpA.arg (zqv W) h2 hsz0 2 rfl rfl
 have R2:=zkp (zfh (hval 2 26 v2 rfl rfl) Tryd.underlying26 rfl) l2 q2r
 clear hA0 hval0
 refine(zmh (law x0 x1 x2 ok0 sb1) (zc4 R0 (zc4 R1 (zc4 R2 zif)))).mono fun e W' ⟨he,bel⟩ => ?_
 subst he
 exact⟨_,rfl,_,_,_,[],_,[],hW',trodAll_mk1 (shut_bool Tryd.underlying4 _),(trodAll_cons_mk (Below.trod zhr (by kernel_rfl) (of_decide_eq_true (by kernel_rfl)) h0 bel lt0) (trodAll_cons_mk (Below.trod zhr (by kernel_rfl) (of_decide_eq_true (by kernel_rfl)) h1 bel lt1) (trodAll_cons_mk (Below.trod zhr (by kernel_rfl) (of_decide_eq_true (by kernel_rfl)) h2 bel lt2) trodAll_mk0))),rfl,bel.frame _,fun h=>by cases h⟩
theorem over:Rows.FieldSaysUptoSaid :=
 OpenClaim.holds_of_cond 3 Tryd.f3 rfl rfl rfl rfl rfl rfl rfl ⟨rfl,rfl,rfl,rfl,rfl⟩ rfl rfl rfl rfl rfl (by kernel_rfl) Tryd.func3 (by kernel_rfl)
  (of_decide_eq_true (by kernel_rfl)) (by unfold Func.isWrapper;first|(rw[if_pos (by decide +kernel)];kernel_rfl)|(rw[if_neg (by decide +kernel)];exact⟨rfl,rfl⟩))
  (fun os started H enc _ F=>by rw[OpenClaim.pre_eq_preRow];exact zp0 os started H enc F)
theorem zqt (f : FuncId) (fn : Func) (hf : Tryd.pinned.checked.prog.funcNamed "musterfield/mustlaw.FieldSays" = some f) (hfn : Tryd.pinned.checked.prog.funcs[f]? = some fn) :
 false=Tryd.pinned.checked.prog.looks []∧∀(j:Nat) t,fn.params[j]? = some t→Tryd.pinned.checked.prog.wantsStandIn t=false:=by
 obtain rfl : f = 3 := Option.some.inj ((show Tryd.prog.funcNamed "musterfield/mustlaw.FieldSays" = some 3 by kernel_rfl).symm.trans hf) |>.symm
 obtain rfl:fn=Tryd.f3:=(Option.some.inj (Tryd.func3.symm.trans hfn)).symm
 refine⟨by kernel_rfl,fun j t ht => ?_⟩
 rw[Tryd.params3]at ht
 have hm:t ∈ [24,9,26]:=by simpa using Array.mem_of_getElem? ht
 have hall:([24,9,26].all fun u => !Tryd.prog.wantsStandIn u)=true:=by kernel_rfl
 exact(show Tryd.prog.wantsStandIn t=false by simpa using List.all_eq_true.1 hall t hm)
theorem proved:Rows.FieldSaysUptoCardSaid :=
 Claim7.holds_tied_plain_at .later [] _ _ _ _ over (fun _ h=>by cases h) (by kernel_rfl) (fun _ h=>by cases h) fieldSaysUpto_row_tie rfl ⟨rfl,rfl⟩ (by kernel_rfl) rfl zqt (by kernel_rfl)
#print axioms proved
end fieldSays
end Go.Proofs.YthlcafpcndagcaaDoor
