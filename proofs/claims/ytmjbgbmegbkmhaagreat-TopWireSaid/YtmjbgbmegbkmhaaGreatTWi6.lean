/- Lemmas for the proof of topWire.proved. -/
import Derived.Test.YtmjbgbmegbkmhaaGreatTWi5
namespace Go.Proofs.YtmjbgbmegbkmhaaGreat
set_option linter.all false
open Go.RowKit
set_option maxRecDepth 100000
def zaj (n a b:Int):Bool:=decide (a≤n)&&decide (n≤b)
theorem within_iff {n a b:Int} : zaj n a b=true↔a≤n∧n≤b:=by unfold zaj;simp
theorem zul {n a b:Int} : zaj n a b=false↔¬(a≤n∧n≤b):=by unfold zaj;simp
def zgm (f:Fld):Bool := !zaj f.w 1 40 || !zaj f.h 1 40
def zel (f:Fld):Bool := !decide ((f.p.length:Int)=f.w*f.h)||f.p.any (fun p=>decide (p<0)||decide (4≤p))
def zb7 (f:Fld):Int:=if zgm f then 1 else if zel f then 4 else 0
theorem zbs {f:Fld} (h:zb7 f=0):(1≤f.w∧f.w≤40)∧(1≤f.h∧f.h≤40)∧(f.p.length:Int)=f.w*f.h∧∀p∈f.p,0≤p∧p<4:=by
 unfold zb7 at h
 split at h
 ·simp at h
 ·rename_i h1
  split at h
  ·simp at h
  ·rename_i h2
   simp only[zgm,Bool.or_eq_true,Bool.not_eq_true',not_or,Bool.not_eq_false,within_iff]at h1
   simp only[zel,Bool.or_eq_true,Bool.not_eq_true',decide_eq_false_iff_not,not_or,Decidable.not_not,List.any_eq_true,not_exists,not_and,decide_eq_true_eq]at h2
   exact⟨h1.1,h1.2,h2.1,fun p hp=>by have:=h2.2 p hp;omega⟩
theorem z9c (n:Int):Spec Tryz.prog 100 [I .i64 n] [] (B (zaj n 1 40)) []:=by
 refine spB Tryz.func100 9 [.tmp 2] Tryz.results100 ?_
 try refine xst ?_
 exact zbr rfl trivial (Wk.of (congrArg B (by unfold zaj;first|rfl|simp)))
theorem yhb (n:Int):Spec Tryz.prog 102 ([] ++ [I .i64 n] ++ []) [] (B (decide (n<0)||decide (4≤n))) []:=by
 refine spB Tryz.func102 9 [.tmp 2] Tryz.results102 ?_
 try refine xst ?_
 exact zbr rfl trivial (Wk.refl _)
theorem zwy (f:Fld) (hl:f.p.length≤9223372036854775807):Spec Tryz.prog 57 [z3k f] [] (I .i64 (zb7 f)) []:=by
 refine spB Tryz.func57 27 [.tmp 2] Tryz.results57 ?_
 try refine xst ?_
 refine zem (z9c f.w) (WkL.refl _) ?_
 try refine xst ?_
 refine zwr (fun hc=>z9c f.h) (WkL.refl _) (by intro hc;(try simp(etaStruct := .none)only[push_cast,zab,seval]);(try simp_all)) ?_
 try refine xst ?_
 refine za1 (fun h1 => ?_) (fun h1 => ?_)
 ·try refine xst ?_
  (first|(refine zaz rfl (Wk.of ?_);(try simp(etaStruct := .none)only[push_cast,zab,seval]);first|done|(simp[zb7,zgm,zel, *];done)|(simp_all[zb7,zgm,zel];done))|(refine zaz rfl ?_;(try simp(etaStruct := .none)only[push_cast,zab,seval]);(try simp[zb7,zgm,zel, *]);(try exact wkc)))
 ·have hw:zaj f.w 1 40=true∧zaj f.h 1 40=true:=by simpa using h1
  obtain⟨h3,h4⟩:=hw
  rw[within_iff]at h3 h4
  have hm1:0≤f.w*f.h:=Int.mul_nonneg (by omega) (by omega)
  have hm2:f.w*f.h≤40*40:=Int.mul_le_mul h3.2 h4.2 (by omega) (by omega)
  try refine xst ?_
  refine zwr (fun hc=>z2o _ [] [] f.p (fun p=>decide (p<0)||decide (4≤p)) hl (fun n _=>yhb n) (fun _=>rfl) (fun _=>rfl)) (WkL.refl _) (by intro hc;(try simp(etaStruct := .none)only[push_cast,zab,seval]);(try simp_all)) ?_
  try refine xst ?_
  refine za1 (fun h2 => ?_) (fun h2 => ?_)
  ·try refine xst ?_
   (first|(refine zaz rfl (Wk.of ?_);(try simp(etaStruct := .none)only[push_cast,zab,seval]);first|done|(simp[zb7,zgm,zel, *];done)|(simp_all[zb7,zgm,zel];done))|(refine zaz rfl ?_;(try simp(etaStruct := .none)only[push_cast,zab,seval]);(try simp[zb7,zgm,zel, *]);(try exact wkc)))
  ·try refine xst ?_
   (first|(refine zaz rfl (Wk.of ?_);(try simp(etaStruct := .none)only[push_cast,zab,seval]);first|done|(simp[zb7,zgm,zel, *];done)|(simp_all[zb7,zgm,zel];done))|(refine zaz rfl ?_;(try simp(etaStruct := .none)only[push_cast,zab,seval]);(try simp[zb7,zgm,zel, *]);(try exact wkc)))
def inF (f:Fld) (c:Cel):Bool:=zaj c.x 0 (f.w-1)&&zaj c.y 0 (f.h-1)
theorem inF_iff {f:Fld} {c:Cel} : inF f c=true↔(0≤c.x∧c.x<f.w)∧(0≤c.y∧c.y<f.h):=by
 unfold inF;rw[Bool.and_eq_true,within_iff,within_iff];omega
theorem inF_f {f:Fld} {c:Cel} : inF f c=false↔¬((0≤c.x∧c.x<f.w)∧(0≤c.y∧c.y<f.h)):=by
 rw[←inF_iff,Bool.not_eq_true]
def zao (f:Fld) (c:Cel):Int:=f.p.getD (c.y*f.w+c.x).toNat default
theorem zby {f:Fld} {c:Cel} (h:zb7 f=0) (hc:inF f c=true):0≤c.y*f.w∧c.y*f.w≤1600∧0≤c.y*f.w+c.x∧c.y*f.w+c.x<f.p.length∧f.p.length≤1600:=by
 obtain⟨h1,h2,h3,_⟩:=zbs h
 obtain⟨h4,h5⟩:=inF_iff.1 hc
 have a1:0≤c.y*f.w:=Int.mul_nonneg (by omega) (by omega)
 have a2:c.y*f.w≤(f.h-1)*f.w:=Int.mul_le_mul_of_nonneg_right (by omega) (by omega)
 have a3:(f.h-1)*f.w=f.w*f.h-f.w:=by rw[Int.sub_mul,Int.mul_comm f.h,Int.one_mul]
 have a4:f.w*f.h≤40*40:=Int.mul_le_mul h1.2 h2.2 (by omega) (by omega)
 omega
def atV (f:Fld) (c:Cel):Int × Int:=if zb7 f≠0 then (0,zb7 f)else if inF f c then (zao f c,0)else (0,7)
theorem zzs (f:Fld) (c:Cel) (hl:f.p.length≤9223372036854775807):Spec Tryz.prog 129 [z3k f,zhv c] [] (.tup [I .i64 (atV f c).1,I .i64 (atV f c).2]) []:=by
 refine spB Tryz.func129 46 [.tmp 4,.tmp 5] Tryz.results129 ?_
 try refine xst ?_
 refine caP (zwy f hl) ?_
 try refine xst ?_
 refine cI (fun h1 => ?_) fun h1 => ?_
 ·try refine xst ?_
  (first|(refine zaz rfl (Wk.of ?_);(try simp(etaStruct := .none)only[push_cast,zab,seval]);first|done|(simp[atV,zao, *];done)|(simp_all[atV,zao];done))|(refine zaz rfl ?_;(try simp(etaStruct := .none)only[push_cast,zab,seval]);(try simp[atV,zao, *]);(try exact wkc)))
 ·obtain⟨e1,e2,e3,e4⟩:=zbs h1
  try refine xst ?_
  refine cI (fun h2 => ?_) fun h2 => ?_
  ·have hc:inF f c=false:=inF_f.2 (by omega)
   try refine xst ?_
   (first|(refine zaz rfl (Wk.of ?_);(try simp(etaStruct := .none)only[push_cast,zab,seval]);first|done|(simp[atV,zao, *];done)|(simp_all[atV,zao];done))|(refine zaz rfl ?_;(try simp(etaStruct := .none)only[push_cast,zab,seval]);(try simp[atV,zao, *]);(try exact wkc)))
  ·have hc:inF f c=true:=inF_iff.2 (by omega)
   obtain⟨i1,i2,i3,i4,i5⟩:=zby h1 hc
   try refine xz2 (gd (show (c.y*f.w+c.x).toNat<f.p.length by omega)) zbe ?_
   (first|(refine zaz rfl (Wk.of ?_);(try simp(etaStruct := .none)only[push_cast,zab,seval]);first|done|(simp[atV,zao, *];done)|(simp_all[atV,zao];done))|(refine zaz rfl ?_;(try simp(etaStruct := .none)only[push_cast,zab,seval]);(try simp[atV,zao, *]);(try exact wkc)))
end Go.Proofs.YtmjbgbmegbkmhaaGreat
namespace Go.Proofs.YtmjbgbmegbkmhaaGreat
set_option linter.all false
open Go.RowKit
set_option maxRecDepth 100000
set_option maxHeartbeats 400000
def ze8 (q:Int):Int × Int:=if q=0∨q=3 then (2,0)else if q=2 then (3,0)else if q=1 then (0,9)else (0,1)
theorem yhk (q:Int):Spec Tryz.prog 181 [I .i64 q] [] (.tup [I .i64 (ze8 q).1,I .i64 (ze8 q).2]) []:=by
 refine spB Tryz.func181 12 [.tmp 2,.tmp 3] Tryz.results181 ?_
 try refine xst ?_
 refine cI (fun h1 => ?_) fun h1 => ?_
 ·try refine xst ?_
  refine cI (fun h2 => ?_) fun h2 => ?_
  ·try refine xst ?_
   (first|(refine zaz rfl (Wk.of ?_);(try simp(etaStruct := .none)only[push_cast,zab,seval]);first|done|(simp[ze8, *];done)|(simp_all[ze8];done))|(refine zaz rfl ?_;(try simp(etaStruct := .none)only[push_cast,zab,seval]);(try simp[ze8, *]);(try exact wkc)))
  ·exact absurd h1 h2
 ·try refine xst ?_
  refine cI (fun h3 => ?_) fun h3 => ?_
  ·try refine xst ?_
   (first|(refine zaz rfl (Wk.of ?_);(try simp(etaStruct := .none)only[push_cast,zab,seval]);first|done|(simp[ze8, *];done)|(simp_all[ze8];done))|(refine zaz rfl ?_;(try simp(etaStruct := .none)only[push_cast,zab,seval]);(try simp[ze8, *]);(try exact wkc)))
  ·try refine xst ?_
   refine cI (fun h4 => ?_) fun h4 => ?_
   ·try refine xst ?_
    (first|(refine zaz rfl (Wk.of ?_);(try simp(etaStruct := .none)only[push_cast,zab,seval]);first|done|(simp[ze8, *];done)|(simp_all[ze8];done))|(refine zaz rfl ?_;(try simp(etaStruct := .none)only[push_cast,zab,seval]);(try simp[ze8, *]);(try exact wkc)))
   ·try refine xst ?_
    refine cI (fun h5 => ?_) fun h5 => ?_
    ·try refine xst ?_
     (first|(refine zaz rfl (Wk.of ?_);(try simp(etaStruct := .none)only[push_cast,zab,seval]);first|done|(simp[ze8, *];done)|(simp_all[ze8];done))|(refine zaz rfl ?_;(try simp(etaStruct := .none)only[push_cast,zab,seval]);(try simp[ze8, *]);(try exact wkc)))
    ·try refine xst ?_
     (first|(refine zaz rfl (Wk.of ?_);(try simp(etaStruct := .none)only[push_cast,zab,seval]);first|done|(simp[ze8, *];done)|(simp_all[ze8];done))|(refine zaz rfl ?_;(try simp(etaStruct := .none)only[push_cast,zab,seval]);(try simp[ze8, *]);(try exact wkc)))
def zar (f:Fld) (c:Cel):Nat:=(c.y*f.w+c.x).toNat
def yid (f:Fld):List Cel→Int
 | []=>0
 | c::r=>if inF f c then (if zao f c=1 then 9 else yid f r)else 7
def zr3 (f:Fld) (l:List Cel):Int:=if zb7 f≠0 then zb7 f else if 100<l.length then 2 else yid f l
def zat (f:Fld) (l:List Cel) (R:List Int):Prop:=(zr3 f l=0→∀far,Flood f.w.toNat f.p (l.map (zar f)) far→R=far)∧(zr3 f l≠0→R = [])∧R.length≤f.p.length
theorem zww (f:Fld) (l:List Cel):∃R,zat f l R:=by
 by_cases h:zr3 f l=0∧∃far,Flood f.w.toNat f.p (l.map (zar f)) far
 ·obtain⟨h1,far,hf⟩:=h
  exact⟨far,fun _ g hg=>hf.uniq hg,fun h=>absurd h1 h,by rw[hf.len];exact Nat.le_refl _⟩
 ·exact⟨[],fun h0 far hf=>absurd ⟨h0,far,hf⟩ h,fun _=>rfl,Nat.zero_le _⟩
theorem z77 {q:Int} (h:0≤q∧q<4):(q=1∧ze8 q=(0,9))∨(q≠1∧ze8 q=(kV q,0)):=by
 have:q=0∨q=1∨q=2∨q=3:=by omega
 rcases this with rfl|rfl|rfl|rfl
 ·exact .inr ⟨by decide,rfl⟩
 ·exact .inl ⟨rfl,rfl⟩
 ·exact .inr ⟨by decide,rfl⟩
 ·exact .inr ⟨by decide,rfl⟩
def zal (c:Cel):List Cel := [⟨c.x,c.y-1⟩,⟨c.x-1,c.y⟩,⟨c.x+1,c.y⟩,⟨c.x,c.y+1⟩]
def zen (f:Fld) (c:Cel):List Cel:=(zal c).filter (inF f)
theorem znv (f:Fld) {W H i:Nat} (hw:f.w=(W:Int)) (hh:f.h=(H:Int)) (hW:0<W) (hi:i<W*H):(zen f ⟨((i % W:Nat):Int),((i/W:Nat):Int)⟩).map (zar f)=zmi W H i∧∀n∈zen f ⟨((i % W:Nat):Int),((i/W:Nat):Int)⟩,inF f n=true:=by
 refine⟨?_,fun n hn=>(List.mem_filter.1 hn).2⟩
 have h1:=Nat.div_add_mod i W
 have h2:=Nat.mod_lt i hW
 have h3:i/W<H:=by rw[Nat.div_lt_iff_lt_mul hW,Nat.mul_comm];exact hi
 unfold zen zmi zal
 generalize i % W=x at *
 generalize i/W=y at *
 have a1:inF f ⟨(x:Int),(y:Int)-1⟩=decide (0<y):=by
  rw[Bool.eq_iff_iff,inF_iff,decide_eq_true_eq,hw,hh];simp only;omega
 have a2:inF f ⟨(x:Int)-1,(y:Int)⟩=decide (0<x):=by
  rw[Bool.eq_iff_iff,inF_iff,decide_eq_true_eq,hw,hh];simp only;omega
 have a3:inF f ⟨(x:Int)+1,(y:Int)⟩=decide (x+1<W):=by
  rw[Bool.eq_iff_iff,inF_iff,decide_eq_true_eq,hw,hh];simp only;omega
 have a4:inF f ⟨(x:Int),(y:Int)+1⟩=decide (y+1<H):=by
  rw[Bool.eq_iff_iff,inF_iff,decide_eq_true_eq,hw,hh];simp only;omega
 have hyW:(y:Int)*(W:Int)=((W*y:Nat):Int):=by rw[Nat.mul_comm,Int.natCast_mul]
 have b1:0<y→zar f ⟨(x:Int),(y:Int)-1⟩=i-W:=fun h=>by
  unfold zar;simp only;rw[hw,Int.sub_mul,hyW,Int.one_mul]
  have:W*1≤W*y:=Nat.mul_le_mul_left _ h
  omega
 have b2:0<x→zar f ⟨(x:Int)-1,(y:Int)⟩=i-1:=fun h=>by
  unfold zar;simp only;rw[hw,hyW];omega
 have b3:zar f ⟨(x:Int)+1,(y:Int)⟩=i+1:=by
  unfold zar;simp only;rw[hw,hyW];omega
 have b4:zar f ⟨(x:Int),(y:Int)+1⟩=i+W:=by
  unfold zar;simp only;rw[hw,Int.add_mul,hyW,Int.one_mul];omega
 simp only[List.filter_cons,List.filter_nil,a1,a2,a3,a4,decide_eq_true_eq]
 by_cases c1:0<y<;>by_cases c2:0<x<;>by_cases c3:x+1<W<;>by_cases c4:y+1<H<;>simp only[c1,c2,c3,c4,if_true,if_false,List.map_cons,List.map_nil,b3,b4,List.nil_append,List.cons_append,List.append_nil]<;>(first|rw[b1 c1,b2 c2]|rw[b1 c1]|rw[b2 c2]|rfl)
end Go.Proofs.YtmjbgbmegbkmhaaGreat
namespace Go.Proofs.YtmjbgbmegbkmhaaGreat
set_option linter.all false
open Go.RowKit
set_option maxRecDepth 100000
theorem zd5 (a b:Cel):(decide (a.x=b.x)&&decide (a.y=b.y))=decide (a=b):=by
 rw[Bool.eq_iff_iff];cases a;cases b;simp
theorem yhm (l m:List Cel) (hl:l.length≤9223372036854775807) (hm:m.length≤9223372036854775807):Spec Tryz.prog 51 [.c (.sl 2 (l.map zbb)),.c (.sl 2 (m.map zbb))] [] (B (decide (l=m))) []:=by
 refine spB Tryz.func51 26 [.tmp 4] Tryz.results51 ?_
 try refine xst ?_
 refine cI (fun h1 => ?_) fun h1 => ?_
 ·have e:l≠m:=by intro e;subst e;simp at h1
  try refine xst ?_
  exact zbr rfl trivial (Wk.of (by rw[decide_eq_false e];rfl))
 ·try refine xst ?_
  refine za3 (fun k:Nat=>⟨[(13,I .i64 k),(12,I .i64 l.length),(1,.c (.sl 2 (m.map zbb))),(0,.c (.sl 2 (l.map zbb)))],[],0⟩) (fun k:Nat=>k≤l.length∧∀j,j<k→l.getD j default=m.getD j default) (fun k:Nat=>l.length-k) (0) (⟨Nat.zero_le _,fun j h=>by omega⟩) (To.mk [] rfl rfl List.nodup_nil trivial ?_) ?_
  ·simp(etaStruct := .none)only[push_cast,zab,seval]
  rintro k ⟨hk,hn⟩
  try refine xst ?_
  refine cI (fun h2 => ?_) fun h2 => ?_
  ·have hlt:k<l.length:=by omega
   have hlt2:k<m.length:=by omega
   try refine xz4 (gd hlt) (gd hlt2) zcg zd5 ?_
   (try(refine⟨by kernel_rfl,?_⟩))
   try refine xz4 (gd hlt) (gd hlt2) zcg zd5 ?_
   refine cI (fun h3 => ?_) fun h3 => ?_
   ·have e:l≠m:=by intro e;subst e;simp at h3
    try refine xz4 (gd hlt) (gd hlt2) zcg zd5 ?_
    exact zbr rfl trivial (Wk.of (by rw[decide_eq_false e];rfl))
   ·try refine xz4 (gd hlt) (gd hlt2) zcg zd5 ?_
    refine⟨k+1,⟨by omega,fun j hj=>by rcases Nat.lt_or_ge j k with h|h;exact hn j h;rw[show j=k by omega];simpa using h3⟩,by omega,To.mk [] rfl rfl List.nodup_nil trivial ?_⟩
    ·(try(refine xz4 (gd hlt) (gd hlt2) zcg zd5 ?_;try exact xtI))
  ·have e:l=m:=by
    refine List.ext_getElem (by omega) fun i i1 i2 => ?_
    have:=hn i (by omega)
    rwa [zag _ _ i1,zag _ _ i2]at this
   try refine xst ?_
   exact zbr rfl trivial (Wk.of (by rw[decide_eq_true e];rfl))
theorem z2m (l m:List Int) (hl:l.length≤9223372036854775807) (hm:m.length≤9223372036854775807):Spec Tryz.prog 52 [.c (.sl 1 (l.map zae)),.c (.sl 1 (m.map zae))] [] (B (decide (l=m))) []:=by
 refine spB Tryz.func52 26 [.tmp 4] Tryz.results52 ?_
 try refine xst ?_
 refine cI (fun h1 => ?_) fun h1 => ?_
 ·have e:l≠m:=by intro e;subst e;simp at h1
  try refine xst ?_
  exact zbr rfl trivial (Wk.of (by rw[decide_eq_false e];rfl))
 ·try refine xst ?_
  refine za3 (fun k:Nat=>⟨[(13,I .i64 k),(12,I .i64 l.length),(1,.c (.sl 1 (m.map zae))),(0,.c (.sl 1 (l.map zae)))],[],0⟩) (fun k:Nat=>k≤l.length∧∀j,j<k→l.getD j default=m.getD j default) (fun k:Nat=>l.length-k) (0) (⟨Nat.zero_le _,fun j h=>by omega⟩) (To.mk [] rfl rfl List.nodup_nil trivial ?_) ?_
  ·simp(etaStruct := .none)only[push_cast,zab,seval]
  rintro k ⟨hk,hn⟩
  try refine xst ?_
  refine cI (fun h2 => ?_) fun h2 => ?_
  ·have hlt:k<l.length:=by omega
   have hlt2:k<m.length:=by omega
   iterate 2(try simp(etaStruct := .none)only[push_cast,zab,seval,zaa _ _ _ hlt,zaa _ _ _ hlt2,zae,decide_not];try refine xsu ?_)
   (try(refine⟨by kernel_rfl,?_⟩))
   iterate 2(try simp(etaStruct := .none)only[push_cast,zab,seval,zaa _ _ _ hlt,zaa _ _ _ hlt2,zae,decide_not];try refine xsu ?_)
   refine cI (fun h3 => ?_) fun h3 => ?_
   ·have e:l≠m:=by intro e;subst e;simp at h3
    iterate 2(try simp(etaStruct := .none)only[push_cast,zab,seval,zaa _ _ _ hlt,zaa _ _ _ hlt2,zae,decide_not];try refine xsu ?_)
    exact zbr rfl trivial (Wk.of (by rw[decide_eq_false e];rfl))
   ·iterate 2(try simp(etaStruct := .none)only[push_cast,zab,seval,zaa _ _ _ hlt,zaa _ _ _ hlt2,zae,decide_not];try refine xsu ?_)
    refine⟨k+1,⟨by omega,fun j hj=>by rcases Nat.lt_or_ge j k with h|h;exact hn j h;rw[show j=k by omega];simpa using h3⟩,by omega,To.mk [] rfl rfl List.nodup_nil trivial ?_⟩
    ·(iterate 2((try simp(etaStruct := .none)only[push_cast,zab,seval,zaa _ _ _ hlt,zaa _ _ _ hlt2,zae,decide_not]);(try(refine xsu ?_;try exact xtI))))
  ·have e:l=m:=by
    refine List.ext_getElem (by omega) fun i i1 i2 => ?_
    have:=hn i (by omega)
    rwa [zag _ _ i1,zag _ _ i2]at this
   try refine xst ?_
   exact zbr rfl trivial (Wk.of (by rw[decide_eq_true e];rfl))
end Go.Proofs.YtmjbgbmegbkmhaaGreat
namespace Go.Proofs.YtmjbgbmegbkmhaaGreat
set_option linter.all false
open Go.RowKit
set_option maxRecDepth 100000
set_option maxHeartbeats 1000000
def zce (f:Fld) (c:Cel):Bool:=inF f c && !decide (zao f c=1)
structure Knd where
 life:Int
 blow:Int
 load:Int
 price:Int
 deriving DecidableEq, Inhabited
def zbl (k:Int):Knd:=if k=1 then ⟨10,1,1,5⟩else if k=2 then ⟨20,2,4,12⟩else ⟨0,0,0,0⟩
abbrev ym5 (k:Knd):AV := .agg [I .i64 k.life,I .i64 k.blow,I .i64 k.load,I .i64 k.price]
def zge (p:Nat→Bool):Nat→Bool
 | 0=>true
 | k+1=>zge p k&&p k
theorem zbk (p:Nat→Bool):∀n,zge p n=true↔∀i,i<n→p i=true
 | 0=>by simp[zge]
 | n+1=>by
  rw[zge,Bool.and_eq_true,zbk p n]
  constructor
  ·rintro⟨a,b⟩ i hi
   rcases Nat.lt_or_ge i n with h|h
   ·exact a i h
   ·obtain rfl:i=n:=by omega
    exact b
  ·intro h
   exact⟨fun i hi=>h i (by omega),h n (by omega)⟩
def zmz (w:Wld) (i:Nat):Bool:=zce w.f (w.bases.getD i default)&&zaj (w.stocks.getD i default) 0 1000000&&zge (fun j => !decide (w.bases.getD j default=w.bases.getD i default)) i
def zmr (w:Wld) (i:Nat):Bool:=zaj (w.mines.getD i default) 0 1000000&&(decide (w.mines.getD i default=0)||decide (w.f.p.getD i default=3))
def yee (w:Wld) (t:Trp):Bool:=zaj t.id 1 (w.next-1)&&zaj t.owner 0 ((w.bases.length:Int)-1)&&zce w.f t.c&&zaj t.life 1 (zbl t.kind).life&&zaj t.load 0 (5*(2-t.kind))
def z85 (w:Wld) (i:Nat):Bool:=zge (fun j=>decide ((w.troops.getD j default).id<(w.troops.getD i default).id) && !decide ((w.troops.getD j default).c=(w.troops.getD i default).c)) i
def zfb (w:Wld) (i:Nat):Bool:=zaj (w.troops.getD i default).kind 1 2&&(yee w (w.troops.getD i default)&&z85 w i)
def zh1 (w:Wld):Bool:=zge (zmz w) w.bases.length&&zge (zmr w) w.mines.length&&zge (zfb w) w.troops.length
def zjt (w:Wld):Bool:=decide (w.stocks.length=w.bases.length)&&decide (w.mines.length=w.f.p.length)&&zaj w.next 1 1000000&&zaj w.now 0 1000000
def zaw (w:Wld):Int:=if zb7 w.f≠0 then zb7 w.f else if 8<w.bases.length∨100<w.troops.length then 2 else if zjt w&&zh1 w then 0 else 4
end Go.Proofs.YtmjbgbmegbkmhaaGreat
namespace Go.Proofs.YtmjbgbmegbkmhaaGreat
set_option linter.all false
open Go.RowKit
def zep (c:Cel):Bool:=decide (-1000≤c.x∧c.x≤1000 ∧ -1000≤c.y∧c.y≤1000)
def lq (n m k:Nat):Nat:=(2*k*m+n)/(2*n)
def lr (n m k:Nat):Nat:=(2*k*m+n) % (2*n)
theorem zou (n m k:Nat) (hn:0<n) (hm:m≤n):(2*n≤lr n m k+2*m→lq n m (k+1)=lq n m k+1∧lr n m (k+1)=lr n m k+2*m-2*n)∧(lr n m k+2*m<2*n→lq n m (k+1)=lq n m k∧lr n m (k+1)=lr n m k+2*m):=by
 have e:2*(k+1)*m+n=(2*k*m+n)+2*m:=by rw[Nat.mul_add,Nat.add_mul];omega
 have hd:=Nat.div_add_mod (2*k*m+n) (2*n)
 have hlt:(2*k*m+n) % (2*n)<2*n:=Nat.mod_lt _ (by omega)
 unfold lq lr
 rw[e]
 constructor
 ·intro h
  have e2:2*k*m+n+2*m=((2*k*m+n) % (2*n)+2*m-2*n)+2*n*((2*k*m+n)/(2*n)+1):=by rw[Nat.mul_add];omega
  rw[e2,Nat.add_mul_div_left _ _ (by omega),Nat.add_mul_mod_self_left,Nat.div_eq_of_lt (by omega),Nat.mod_eq_of_lt (by omega)]
  omega
 ·intro h
  have e2:2*k*m+n+2*m=((2*k*m+n) % (2*n)+2*m)+2*n*((2*k*m+n)/(2*n)):=by omega
  rw[e2,Nat.add_mul_div_left _ _ (by omega),Nat.add_mul_mod_self_left,Nat.div_eq_of_lt (by omega),Nat.mod_eq_of_lt (by omega)]
  omega
theorem ztp (n m:Nat):lq n m 0=0:=by
 unfold lq
 rcases Nat.eq_zero_or_pos n with rfl|h
 ·simp
 ·rw[Nat.mul_zero,Nat.zero_mul,Nat.zero_add];exact Nat.div_eq_of_lt (by omega)
theorem yb8 (n m:Nat):lr n m 0=n:=by
 unfold lr
 rcases Nat.eq_zero_or_pos n with rfl|h
 ·simp
 ·rw[Nat.mul_zero,Nat.zero_mul,Nat.zero_add];exact Nat.mod_eq_of_lt (by omega)
theorem yks (n m k:Nat) (h:0<n):lr n m k<2*n:=Nat.mod_lt _ (by omega)
theorem z6x (n m k:Nat) (hn:0<n) (hk:k≤n):lq n m k≤m:=by
 unfold lq
 have:2*k*m≤2*n*m:=Nat.mul_le_mul_right _ (by omega)
 have:(2*k*m+n)/(2*n)<m+1:=(Nat.div_lt_iff_lt_mul (by omega)).2 (by rw[Nat.add_mul,Nat.mul_comm m];omega)
 omega
def lpt (a:Cel) (sx sy:Int) (X Y k:Nat):Cel:=if Y≤X then ⟨a.x+sx*k,a.y+sy*lq X Y k⟩else ⟨a.x+sx*lq Y X k,a.y+sy*k⟩
def zzo (a:Cel) (sx sy:Int) (X Y n:Nat):List Cel:=(List.range (n+1)).map (lpt a sx sy X Y)
theorem zjb {c:Cel} (h:zep c=true) : -1000≤c.x∧c.x≤1000 ∧ -1000≤c.y∧c.y≤1000:=by simpa[zep]using h
theorem zrk (a:Cel) (sx sy:Int) (X Y n:Nat):zzo a sx sy X Y (n+1)=zzo a sx sy X Y n ++ [lpt a sx sy X Y (n+1)]:=by simp[zzo,List.range_succ]
theorem zau (a:Cel) (sx sy:Int) (X Y n:Nat):(zzo a sx sy X Y n).length=n+1:=by simp[zzo]
theorem zov (a:Cel) (sx sy:Int) (X Y:Nat):lpt a sx sy X Y 0=a:=by simp[lpt,ztp]
theorem z6z (a:Cel) (sx sy:Int) (X Y k:Nat) (h1:sx = -1∨sx=0∨sx=1) (h2:sy = -1∨sy=0∨sy=1) (hX:X≤2000) (hY:Y≤2000) (hk:k≤max X Y) (ha:zep a=true) :
 -3000≤(lpt a sx sy X Y k).x∧(lpt a sx sy X Y k).x≤3000 ∧ -3000≤(lpt a sx sy X Y k).y∧(lpt a sx sy X Y k).y≤3000:=by
 have hn:=zjb ha
 have key:∀(s:Int) (q:Nat),(s = -1∨s=0∨s=1)→q≤2000 → -2000≤s*q∧s*q≤2000:=by
  intro s q hs hq
  rcases hs with rfl|rfl|rfl<;>omega
 unfold lpt
 split
 ·have hq:lq X Y k≤2000:=by
   rcases Nat.eq_zero_or_pos X with rfl|h
   ·obtain rfl:k=0:=by omega
    rw[ztp];omega
   ·have:=z6x X Y k h (by omega);omega
  have a1:=key sx k h1 (by omega)
  have a2:=key sy _ h2 hq
  simp only;omega
 ·have hq:lq Y X k≤2000:=by have:=z6x Y X k (by omega) (by omega);omega
  have a1:=key sx _ h1 hq
  have a2:=key sy k h2 (by omega)
  simp only;omega
theorem z19 (a:Cel) (sx sy:Int) (X Y k:Nat) (h:Y≤X) (h0:0<X):lpt a sx sy X Y (k+1)=⟨(lpt a sx sy X Y k).x+sx,if 2*X≤lr X Y k+2*Y then (lpt a sx sy X Y k).y+sy else (lpt a sx sy X Y k).y⟩:=by
 simp only[lpt,if_pos h]
 have hs:=zou X Y k h0 h
 have e1:a.x+sx*((k+1:Nat):Int)=a.x+sx*k+sx:=by rw[Int.natCast_add,Int.mul_add];omega
 rw[e1]
 by_cases hc:2*X≤lr X Y k+2*Y
 ·rw[if_pos hc,(hs.1 hc).1,Int.natCast_add,Int.mul_add];congr 1;omega
 ·rw[if_neg hc,(hs.2 (by omega)).1]
theorem z18 (a:Cel) (sx sy:Int) (X Y k:Nat) (h:X<Y):lpt a sx sy X Y (k+1)=⟨if 2*Y≤lr Y X k+2*X then (lpt a sx sy X Y k).x+sx else (lpt a sx sy X Y k).x,(lpt a sx sy X Y k).y+sy⟩:=by
 simp only[lpt,if_neg (show ¬Y≤X by omega)]
 have hs:=zou Y X k (by omega) (by omega)
 have e1:a.y+sy*((k+1:Nat):Int)=a.y+sy*k+sy:=by rw[Int.natCast_add,Int.mul_add];omega
 rw[e1]
 by_cases hc:2*Y≤lr Y X k+2*X
 ·rw[if_pos hc,(hs.1 hc).1,Int.natCast_add,Int.mul_add];congr 1;omega
 ·rw[if_neg hc,(hs.2 (by omega)).1]
end Go.Proofs.YtmjbgbmegbkmhaaGreat
namespace Go.Proofs.YtmjbgbmegbkmhaaGreat
set_option linter.all false
open Go.RowKit
set_option maxRecDepth 100000
set_option maxHeartbeats 2000000
theorem zvx (c:Cel) (hx:zhz c.x) (hy:zhz c.y):Spec Tryz.prog 176 [zhv c] [] (B (zep c)) []:=by
 refine spB Tryz.func176 23 [.tmp 2] Tryz.results176 ?_
 try refine xst ?_
 refine zbr rfl trivial (Wk.of ?_)
 simp(etaStruct := .none)only[push_cast,zab,seval]
 simp only[I,B,AV.c.injEq,PV.v.injEq,Value.bool.injEq,zep,IntKind.wrap_i64]
 rw[Bool.eq_iff_iff]
 simp only[Bool.and_eq_true,decide_eq_true_eq]
 repeat' split
 all_goals omega
theorem zu6 (n:Int) (hn:zhz n) (h:n ≠ -9223372036854775808):Spec Tryz.prog 177 [I .i64 n] [] (.tup [I .i64 n.sign,I .i64 n.natAbs]) []:=by
 refine spB Tryz.func177 13 [.tmp 2,.tmp 3] Tryz.results177 ?_
 try refine xst ?_
 refine cI (fun h1 => ?_) fun h1 => ?_
 ·have e1:n.sign = -1:=Int.sign_eq_neg_one_of_neg h1
  have e2:(n.natAbs:Int) = -n:=by omega
  try refine xz2 e1 e2 ?_
  exact xrz rfl
 ·try refine xst ?_
  refine cI (fun h2 => ?_) fun h2 => ?_
  ·have e1:n.sign=1:=Int.sign_eq_one_of_pos h2
   have e2:(n.natAbs:Int)=n:=by omega
   try refine xst ?_
   exact xrz rfl
  ·obtain rfl:n=0:=by omega
   try refine xst ?_
   exact xrz rfl
theorem sg (d:Int):d.sign = -1∨d.sign=0∨d.sign=1:=by
 rcases Int.lt_trichotomy d 0 with h|h|h
 ·rw[Int.sign_eq_neg_one_of_neg h];omega
 ·rw[h];simp
 ·rw[Int.sign_eq_one_of_pos h];omega
def zlz (a b:Cel):List Cel:=zzo a (b.x-a.x).sign (b.y-a.y).sign (b.x-a.x).natAbs (b.y-a.y).natAbs (max (b.x-a.x).natAbs (b.y-a.y).natAbs)
def znc (o:Ord):Bool := !zaj o.by_ 0 7 || !zaj o.kind 1 5 || !zaj o.who 0 1000000 || !zep o.c || !zaj o.what 0 1000000
def zok (o:Ord):Bool:=decide (o.kind=5∧o.who≠0)||decide (o.kind≠2∧o.kind≠3∧¬(o.c.x=0∧o.c.y=0))||decide (o.kind≠1∧o.kind≠5∧o.what≠0)
def ze5 (o:Ord):Int:=if znc o then 1 else if zok o then 4 else 0
theorem zfs {o:Ord} (h:ze5 o=0):(0≤o.by_∧o.by_≤7)∧(1≤o.kind∧o.kind≤5)∧(0≤o.who∧o.who≤1000000)∧(-1000≤o.c.x∧o.c.x≤1000 ∧ -1000≤o.c.y∧o.c.y≤1000)∧(0≤o.what∧o.what≤1000000) ∧
 (o.kind=5→o.who=0)∧(o.kind≠2→o.kind≠3→o.c=⟨0,0⟩)∧(o.kind≠1→o.kind≠5→o.what=0):=by
 unfold ze5 at h
 split at h
 ·simp at h
 ·rename_i h1
  split at h
  ·simp at h
  ·rename_i h2
   simp only[znc,Bool.or_eq_true,Bool.not_eq_true',not_or,Bool.not_eq_false,within_iff,zep,decide_eq_true_eq]at h1
   simp only[zok,Bool.or_eq_true,decide_eq_true_eq,not_or]at h2
   obtain⟨⟨⟨⟨a1,a2⟩,a3⟩,a4⟩,a5⟩:=h1
   refine⟨a1,a2,a3,a4,a5,fun h=>by omega,fun h h' => ?_,fun h h'=>by omega⟩
   have:o.c.x=0∧o.c.y=0:=by omega
   cases hc:o.c;rw[hc]at this;simp at this;rw[this.1,this.2]
def zj0:List Ord→Int
 | []=>0
 | o::r=>if ze5 o≠0 then ze5 o else zj0 r
theorem zr5:∀(l:List Ord) (k:Nat),k<l.length→zj0 (l.drop k)=if ze5 (l.getD k default)≠0 then ze5 (l.getD k default)else zj0 (l.drop (k+1)):=by
 intro l k hk
 rw[List.drop_eq_getElem_cons hk,zag _ _ hk];rfl
theorem zhr (l:List Ord):∀k,k≤l.length→(∀j,j<k→ze5 (l.getD j default)=0)→zj0 l=zj0 (l.drop k)
 | 0,_,_=>by simp
 | k+1,hk,h=>by
  rw[zhr l k (by omega) fun j hj=>h j (by omega),zr5 l k (by omega),if_neg (fun h'=>h' (h k (by omega)))]
theorem zr4:∀(l:List Ord),zj0 l=0→∀o∈l,ze5 o=0
 | [],_,o,ho=>by simp at ho
 | a::r,h,o,ho=>by
  unfold zj0 at h
  split at h
  ·rename_i h1;exact absurd h h1
  ·rename_i h1
   rcases List.mem_cons.1 ho with rfl|ho
   ·exact Decidable.not_not.1 h1
   ·exact zr4 r h o ho
def zdn (l:List Ord):Int:=if 100<l.length then 2 else zj0 l
theorem zgu {l:List Ord} (h:zdn l=0):l.length≤100∧∀o∈l,ze5 o=0:=by
 unfold zdn at h
 split at h
 ·simp at h
 ·rename_i h1;exact⟨by omega,zr4 l h⟩
def zb2 (o:Ord):Ord:=⟨o.by_,o.kind,if o.kind=5 then 0 else o.who,if o.kind≠2∧o.kind≠3 then ⟨0,0⟩else o.c,if o.kind≠1∧o.kind≠5 then 0 else o.what⟩
theorem zdo (a b:Ord):(decide (a.by_=b.by_)&&(decide (a.kind=b.kind)&&(decide (a.who=b.who)&&(decide (a.c.x=b.c.x)&&(decide (a.c.y=b.c.y)&&decide (a.what=b.what))))))=decide (a=b):=by
 rw[Bool.eq_iff_iff];obtain⟨_,_,_,⟨_,_⟩,_⟩:=a;obtain⟨_,_,_,⟨_,_⟩,_⟩:=b;simp[and_assoc]
theorem zb0 (o:Ord):decide (zb2 o=o) = !zok o:=by
 obtain⟨b,k,w,⟨x,y⟩,t⟩:=o
 unfold zb2 zok
 rw[Bool.eq_iff_iff]
 simp only[decide_eq_true_eq,Bool.not_eq_true',Bool.or_eq_false_iff,decide_eq_false_iff_not,Ord.mk.injEq,true_and]
 constructor
 ·rintro⟨h1,h2,h3⟩
  refine⟨⟨fun h => ?_,fun h => ?_⟩,fun h => ?_⟩
  ·rw[if_pos h.1]at h1;omega
  ·rw[if_pos ⟨h.1,h.2.1⟩]at h2;simp at h2;omega
  ·rw[if_pos ⟨h.1,h.2.1⟩]at h3;omega
 ·rintro⟨⟨h1,h2⟩,h3⟩
  refine⟨?_,?_,?_⟩
  ·split<;>omega
  ·split
   ·simp;omega
   ·rfl
  ·split<;>omega
theorem zlo (c:Cel):(!zaj c.x (-1000) 1000 || !zaj c.y (-1000) 1000) = !zep c:=by
 unfold zaj zep
 rw[Bool.eq_iff_iff];simp;omega
theorem zfe (n a b:Int):Spec Tryz.prog 125 [I .i64 n,I .i64 a,I .i64 b] [] (B (zaj n a b)) []:=by
 refine spB Tryz.func125 15 [.tmp 6] Tryz.results125 ?_
 try refine xst ?_
 exact zbr rfl trivial (Wk.of (congrArg B (by unfold zaj;first|rfl|simp)))
theorem yhu (o:Ord):Spec Tryz.prog 126 [zpt o] [] (zpt (zb2 o)) []:=by
 refine spB Tryz.func126 27 [.cell 2 48] Tryz.results126 ?_
 try refine xst ?_
 refine cI (fun h1 => ?_) fun h1 => ?_
 ·try refine xst ?_
  refine cI (fun h2 => ?_) fun h2 => ?_
  ·try refine xst ?_
   refine cI (fun h3 => ?_) fun h3 => ?_
   ·try refine xst ?_
    (first|(refine zaz rfl (Wk.of ?_);(try simp(etaStruct := .none)only[push_cast,zab,seval]);first|done|(simp[zb2, *];done)|(simp_all[zb2];done))|(refine zaz rfl ?_;(try simp(etaStruct := .none)only[push_cast,zab,seval]);(try simp[zb2, *]);(try exact wkc)))
   ·have e2:¬(o.kind≠1∧o.kind≠5):=by omega
    try refine xst ?_
    (first|(refine zaz rfl (Wk.of ?_);(try simp(etaStruct := .none)only[push_cast,zab,seval]);first|done|(simp[zb2, *];done)|(simp_all[zb2];done))|(refine zaz rfl ?_;(try simp(etaStruct := .none)only[push_cast,zab,seval]);(try simp[zb2, *]);(try exact wkc)))
  ·have e1:¬(o.kind≠2∧o.kind≠3):=by omega
   try refine xst ?_
   refine cI (fun h4 => ?_) fun h4 => ?_
   ·try refine xst ?_
    (first|(refine zaz rfl (Wk.of ?_);(try simp(etaStruct := .none)only[push_cast,zab,seval]);first|done|(simp[zb2, *];done)|(simp_all[zb2];done))|(refine zaz rfl ?_;(try simp(etaStruct := .none)only[push_cast,zab,seval]);(try simp[zb2, *]);(try exact wkc)))
   ·have e2:¬(o.kind≠1∧o.kind≠5):=by omega
    try refine xst ?_
    (first|(refine zaz rfl (Wk.of ?_);(try simp(etaStruct := .none)only[push_cast,zab,seval]);first|done|(simp[zb2, *];done)|(simp_all[zb2];done))|(refine zaz rfl ?_;(try simp(etaStruct := .none)only[push_cast,zab,seval]);(try simp[zb2, *]);(try exact wkc)))
 ·try refine xst ?_
  refine cI (fun h5 => ?_) fun h5 => ?_
  ·try refine xst ?_
   refine cI (fun h6 => ?_) fun h6 => ?_
   ·try refine xst ?_
    (first|(refine zaz rfl (Wk.of ?_);(try simp(etaStruct := .none)only[push_cast,zab,seval]);first|done|(simp[zb2, *];done)|(simp_all[zb2];done))|(refine zaz rfl ?_;(try simp(etaStruct := .none)only[push_cast,zab,seval]);(try simp[zb2, *]);(try exact wkc)))
   ·have e2:o.kind=1:=by omega
    try refine xst ?_
    (first|(refine zaz rfl (Wk.of ?_);(try simp(etaStruct := .none)only[push_cast,zab,seval]);first|done|(simp[zb2, *];done)|(simp_all[zb2];done))|(refine zaz rfl ?_;(try simp(etaStruct := .none)only[push_cast,zab,seval]);(try simp[zb2, *]);(try exact wkc)))
  ·have e1:¬(o.kind≠2∧o.kind≠3):=by omega
   try refine xst ?_
   refine cI (fun h7 => ?_) fun h7 => ?_
   ·try refine xst ?_
    (first|(refine zaz rfl (Wk.of ?_);(try simp(etaStruct := .none)only[push_cast,zab,seval]);first|done|(simp[zb2, *];done)|(simp_all[zb2];done))|(refine zaz rfl ?_;(try simp(etaStruct := .none)only[push_cast,zab,seval]);(try simp[zb2, *]);(try exact wkc)))
   ·have e2:¬(o.kind≠1∧o.kind≠5):=by omega
    try refine xst ?_
    (first|(refine zaz rfl (Wk.of ?_);(try simp(etaStruct := .none)only[push_cast,zab,seval]);first|done|(simp[zb2, *];done)|(simp_all[zb2];done))|(refine zaz rfl ?_;(try simp(etaStruct := .none)only[push_cast,zab,seval]);(try simp[zb2, *]);(try exact wkc)))
theorem zft (o:Ord):Spec Tryz.prog 75 [zpt o] [] (I .i64 (ze5 o)) []:=by
 refine spB Tryz.func75 43 [.tmp 2] Tryz.results75 ?_
 try refine xz2 (zdo (zb2 o) o) (zb0 o) ?_
 refine caP (zfe o.by_ 0 7) ?_
 try refine xz2 (zdo (zb2 o) o) (zb0 o) ?_
 refine gcP (fun hcc=>zfe o.kind 1 5) ?_
 try refine xz2 (zdo (zb2 o) o) (zb0 o) ?_
 refine gcP (fun hcc=>zfe o.who 0 1000000) ?_
 try refine xz2 (zdo (zb2 o) o) (zb0 o) ?_
 refine gcP (fun hcc=>zfe o.c.x (-1000) 1000) ?_
 try refine xz2 (zdo (zb2 o) o) (zb0 o) ?_
 refine gcP (fun hcc=>zfe o.c.y (-1000) 1000) ?_
 try refine xz2 (zdo (zb2 o) o) (zb0 o) ?_
 refine gcP (fun hcc=>zfe o.what 0 1000000) ?_
 try refine xz2 (zdo (zb2 o) o) (zb0 o) ?_
 refine cI (fun h1 => ?_) fun h1 => ?_
 ·have hb:znc o=true:=by unfold znc;rw[←zlo];simpa[or_assoc]using h1
  try refine xz2 (zdo (zb2 o) o) (zb0 o) ?_
  (first|(refine zaz rfl (Wk.of ?_);(try simp(etaStruct := .none)only[push_cast,zab,seval]);first|done|(simp[ze5,hb, *];done)|(simp_all[ze5,hb];done))|(refine zaz rfl ?_;(try simp(etaStruct := .none)only[push_cast,zab,seval]);(try simp[ze5,hb, *]);(try exact wkc)))
 ·have hb:znc o=false:=by unfold znc;rw[←zlo];simpa[and_assoc]using h1
  try refine xz2 (zdo (zb2 o) o) (zb0 o) ?_
  refine caP (yhu o) ?_
  try refine xz2 (zdo (zb2 o) o) (zb0 o) ?_
  (try(refine⟨by kernel_rfl,?_⟩))
  try refine xz2 (zdo (zb2 o) o) (zb0 o) ?_
  refine cI (fun h2 => ?_) fun h2 => ?_
  ·try refine xz2 (zdo (zb2 o) o) (zb0 o) ?_
   (first|(refine zaz rfl (Wk.of ?_);(try simp(etaStruct := .none)only[push_cast,zab,seval]);first|done|(simp[ze5,hb, *];done)|(simp_all[ze5,hb];done))|(refine zaz rfl ?_;(try simp(etaStruct := .none)only[push_cast,zab,seval]);(try simp[ze5,hb, *]);(try exact wkc)))
  ·try refine xz2 (zdo (zb2 o) o) (zb0 o) ?_
   (first|(refine zaz rfl (Wk.of ?_);(try simp(etaStruct := .none)only[push_cast,zab,seval]);first|done|(simp[ze5,hb, *];done)|(simp_all[ze5,hb];done))|(refine zaz rfl ?_;(try simp(etaStruct := .none)only[push_cast,zab,seval]);(try simp[ze5,hb, *]);(try exact wkc)))
theorem zvv (l:List Ord) (hl:l.length≤9223372036854775807):Spec Tryz.prog 38 [.c (.sl 6 (l.map zed))] [] (I .i64 (zdn l)) []:=by
 refine spB Tryz.func38 21 [.tmp 2] Tryz.results38 ?_
 try refine xst ?_
 refine cI (fun h1 => ?_) fun h1 => ?_
 ·have h1':100<l.length:=by omega
  try refine xst ?_
  (first|(refine zaz rfl (Wk.of ?_);(try simp(etaStruct := .none)only[push_cast,zab,seval]);first|done|(simp[zdn, *];done)|(simp_all[zdn];done))|(refine zaz rfl ?_;(try simp(etaStruct := .none)only[push_cast,zab,seval]);(try simp[zdn, *]);(try exact wkc)))
 ·try refine xst ?_
  refine za3 (fun k:Nat=>⟨[(11,I .i64 k),(10,I .i64 l.length),(9,.c (.sl 6 (l.map zed)))],[],0⟩) (fun k:Nat=>k≤l.length∧∀j,j<k→ze5 (l.getD j default)=0) (fun k:Nat=>l.length-k) (0) (⟨Nat.zero_le _,fun j h=>by omega⟩) (To.mk [] rfl rfl List.nodup_nil trivial ?_) ?_
  ·simp(etaStruct := .none)only[push_cast,zab,seval]
  rintro k ⟨hk,hn⟩
  try refine xst ?_
  refine cI (fun h2 => ?_) fun h2 => ?_
  ·have hlt:k<l.length:=by omega
   try refine xz2 (gd hlt) zcf ?_
   refine caP (zft (l.getD k default)) ?_
   try refine xz2 (gd hlt) zcf ?_
   refine cI (fun h3 => ?_) fun h3 => ?_
   ·have e:zdn l=ze5 (l.getD k default):=by
     unfold zdn
     rw[if_neg (by omega),zhr l k hk hn,zr5 l k hlt,if_pos h3]
    try refine xz2 (gd hlt) zcf ?_
    (first|(refine zaz rfl (Wk.of ?_);(try simp(etaStruct := .none)only[push_cast,zab,seval]);first|done|(simp[e, *];done)|(simp_all[e];done))|(refine zaz rfl ?_;(try simp(etaStruct := .none)only[push_cast,zab,seval]);(try simp[e, *]);(try exact wkc)))
   ·try refine xz2 (gd hlt) zcf ?_
    refine⟨k+1,⟨by omega,fun j hj=>by rcases Nat.lt_or_ge j k with h|h;exact hn j h;rw[show j=k by omega];exact h3⟩,by omega,To.mk [] rfl rfl List.nodup_nil trivial ?_⟩
    ·(try(refine xz2 (gd hlt) zcf ?_;try exact xtI))
  ·have e:zdn l=0:=by
    unfold zdn
    rw[if_neg (by omega),zhr l k hk hn,List.drop_eq_nil_of_le (by omega)];rfl
   try refine xst ?_
   (first|(refine zaz rfl (Wk.of ?_);(try simp(etaStruct := .none)only[push_cast,zab,seval]);first|done|(simp[e, *];done)|(simp_all[e];done))|(refine zaz rfl ?_;(try simp(etaStruct := .none)only[push_cast,zab,seval]);(try simp[e, *]);(try exact wkc)))
end Go.Proofs.YtmjbgbmegbkmhaaGreat
namespace Go.Proofs.YtmjbgbmegbkmhaaGreat
set_option linter.all false
open Go.RowKit
set_option maxRecDepth 100000
theorem z1f (l:List Ord) (hl:l.length≤2932031007402):Spec Tryz.prog 71 [.c (.sl 6 (l.map zed))] [] (.own 0) [.row 48 6 (l.map zed)]:=by
 refine spB Tryz.func71 8 [.tmp 2] Tryz.results71 ?_
 try refine xst ?_
 intro b hb
 try refine xst ?_
 refine za1 (fun h => ?_) (fun h => ?_)
 ·try refine xst ?_
  have e:=hb h
  refine zoe (To.nil 2 48 6 rfl) (zbc [0] rfl rfl (by decide) ⟨?_,trivial⟩ trivial ?_)
  ·simp(etaStruct := .none)only[push_cast,zab,seval,e]
  ·simp(etaStruct := .none)only[push_cast,zab,seval]
 ·try refine xst ?_
  refine zbc [1] rfl rfl (by decide) ⟨?_,trivial⟩ trivial ?_
  ·simp(etaStruct := .none)only[push_cast,zab,seval]
  ·simp(etaStruct := .none)only[push_cast,zab,seval]
theorem zih (l:List Ord) (hl:l.length≤2932031007402):Spec Tryz.prog 71 [.c (.sl 6 (l.map zed))] [] (.c (.sl 6 (l.map zed))) []:=by
 refine spB Tryz.func71 8 [.tmp 2] Tryz.results71 ?_
 try refine xst ?_
 intro b hb
 try refine xst ?_
 refine za1 (fun h => ?_) (fun h => ?_)
 ·try refine xst ?_
  exact zbr rfl trivial (by rw[hb h];exact Wk.nil _)
 ·try refine xst ?_
  exact zbr rfl trivial (Wk.refl _)
end Go.Proofs.YtmjbgbmegbkmhaaGreat
namespace Go.Proofs.YtmjbgbmegbkmhaaGreat
set_option linter.all false
open Go.RowKit
set_option maxRecDepth 100000
set_option maxHeartbeats 2000000
structure Sea where
 waits:List Ord
 late:Int
 gone:Bool
 deriving DecidableEq, Inhabited
def zb5 (s:Sea):List PV := [.sl 6 (s.waits.map zed),pI s.late,pB s.gone]
theorem zct (s:Sea):zb5 s = [.sl 6 (s.waits.map zed),pI s.late,pB s.gone]:=rfl
abbrev yif (s:Sea):AV := .agg [.c (.sl 6 (s.waits.map zed)),I .i64 s.late,B s.gone]
def zgi (s:Sea):Prop:=s.waits.length≤2932031007402
def zjy (i:Int) (o:Ord):Bool := !decide (o.by_=i) || !decide (ze5 o=0)
def zm4 (s:Sea):Bool := !zaj s.late 0 1000000||(s.gone&&(!decide (s.late=0)||decide (0<s.waits.length)))
def zqj (s:Sea) (i:Int):Bool := !zm4 s && !s.waits.any (zjy i)
def za9 (l:List Sea):Int :=
 if l.length<1∨8<l.length then 1 else if l.any (fun s=>decide (50<s.waits.length))then 2 else
 if (List.range l.length).all (fun i=>zqj (l.getD i default) i)then 0 else 4
theorem yfy (F:FuncId) (a b:List AV) (l:List Ord) (p:Ord→Bool) (hl:l.length≤9223372036854775807) (hp:∀n∈l,Spec Tryz.prog F (a ++ [zpt n]++b) [] (B (p n)) []) (ha:∀h,cvL [] h a=a) (hb:∀h,cvL [] h b=b) :
 Spec Tryz.prog 39 [.c (.sl 6 (l.map zed)),.clo (.func F) a b] [] (I .i64 (zkm p l)) []:=by
 refine spB Tryz.func39 19 [.tmp 4] Tryz.results39 ?_
 simp(etaStruct := .none)only[push_cast,zab,seval]
 refine za3 (fun k:Nat=>⟨[(8,I .i64 k),(7,I .i64 l.length),(0,.c (.sl 6 (l.map zed))),(1,.clo (.func F) a b)],[],0⟩) (fun k=>k≤l.length∧∀j (hj:j<l.length),j<k→p l[j]=false) (fun k=>l.length-k) 0 ⟨Nat.zero_le _,fun j _ h=>by omega⟩ (To.mk [] rfl rfl List.nodup_nil trivial ?_) ?_
 ·simp(etaStruct := .none)only[push_cast,zab,seval,ha,hb]
 ·rintro k ⟨hk,hn⟩
  simp(etaStruct := .none)only[push_cast,zab,seval]
  refine za1 (fun h => ?_) (fun h => ?_)
  ·have hlt:k<l.length:=by simpa using h
   simp(etaStruct := .none)only[push_cast,zab,seval,zcs _ _ _ hlt,zed]
   repeat with_reducible refine obA ?_
   refine zem (hp _ (List.getElem_mem hlt)) (by simp only[zeh,ha,hb,cvL,cv];exact WkL.refl _) ?_
   simp(etaStruct := .none)only[push_cast,zab,seval]
   refine za1 (fun h => ?_) (fun h => ?_)
   ·simp(etaStruct := .none)only[push_cast,zab,seval]
    exact zbr rfl trivial (Wk.of (by rw[zey p l k hlt h hn];rfl))
   ·simp(etaStruct := .none)only[push_cast,zab,seval]
    refine⟨k+1,⟨by omega,fun j hj hjk => ?_⟩,by omega,To.mk [] rfl rfl List.nodup_nil trivial ?_⟩
    ·by_cases e:j=k
     ·subst e;exact h
     ·exact hn j hj (by omega)
    ·simp(etaStruct := .none)only[push_cast,zab,seval,ha,hb]
     simp(disch:=omega)only[zaq,zbg,tdv,tmd]
  ·have hge:k=l.length:=by simp at h;omega
   subst hge
   simp(etaStruct := .none)only[push_cast,zab,seval]
   exact zbr rfl trivial (Wk.of (by rw[zdy p l (fun j hj=>hn j hj hj)];rfl))
theorem ybn (F:FuncId) (a b:List AV) (l:List Ord) (p:Ord→Bool) (hl:l.length≤9223372036854775807) (hp:∀n∈l,Spec Tryz.prog F (a ++ [zpt n]++b) [] (B (p n)) []) (ha:∀h,cvL [] h a=a) (hb:∀h,cvL [] h b=b) :
 Spec Tryz.prog 11 [.c (.sl 6 (l.map zed)),.clo (.func F) a b] [] (B (l.any p)) []:=by
 refine spB Tryz.func11 9 [.tmp 4] Tryz.results11 ?_
 simp(etaStruct := .none)only[push_cast,zab,seval]
 refine zem (yfy F a b l p hl hp ha hb) (by simp only[ha,hb,cvL,cv];exact WkL.refl _) ?_
 simp(etaStruct := .none)only[push_cast,zab,seval]
 exact zbr rfl trivial (Wk.of (by rw[zgw];rfl))
theorem yfh (F:FuncId) (a b:List AV) (l:List Sea) (p:Sea→Bool) (hl:l.length≤9223372036854775807) (hp:∀n∈l,Spec Tryz.prog F (a ++ [yif n]++b) [] (B (p n)) []) (ha:∀h,cvL [] h a=a) (hb:∀h,cvL [] h b=b) :
 Spec Tryz.prog 152 [.c (.sl 3 (l.map zb5)),.clo (.func F) a b] [] (I .i64 (zkm p l)) []:=by
 refine spB Tryz.func152 19 [.tmp 4] Tryz.results152 ?_
 simp(etaStruct := .none)only[push_cast,zab,seval]
 refine za3 (fun k:Nat=>⟨[(8,I .i64 k),(7,I .i64 l.length),(0,.c (.sl 3 (l.map zb5))),(1,.clo (.func F) a b)],[],0⟩) (fun k=>k≤l.length∧∀j (hj:j<l.length),j<k→p l[j]=false) (fun k=>l.length-k) 0 ⟨Nat.zero_le _,fun j _ h=>by omega⟩ (To.mk [] rfl rfl List.nodup_nil trivial ?_) ?_
 ·simp(etaStruct := .none)only[push_cast,zab,seval,ha,hb]
 ·rintro k ⟨hk,hn⟩
  simp(etaStruct := .none)only[push_cast,zab,seval]
  refine za1 (fun h => ?_) (fun h => ?_)
  ·have hlt:k<l.length:=by simpa using h
   simp(etaStruct := .none)only[push_cast,zab,seval,zcs _ _ _ hlt,zb5]
   repeat with_reducible refine obA ?_
   refine zem (hp _ (List.getElem_mem hlt)) (by simp only[zeh,ha,hb,cvL,cv];exact WkL.refl _) ?_
   simp(etaStruct := .none)only[push_cast,zab,seval]
   refine za1 (fun h => ?_) (fun h => ?_)
   ·simp(etaStruct := .none)only[push_cast,zab,seval]
    exact zbr rfl trivial (Wk.of (by rw[zey p l k hlt h hn];rfl))
   ·simp(etaStruct := .none)only[push_cast,zab,seval]
    refine⟨k+1,⟨by omega,fun j hj hjk => ?_⟩,by omega,To.mk [] rfl rfl List.nodup_nil trivial ?_⟩
    ·by_cases e:j=k
     ·subst e;exact h
     ·exact hn j hj (by omega)
    ·simp(etaStruct := .none)only[push_cast,zab,seval,ha,hb]
     simp(disch:=omega)only[zaq,zbg,tdv,tmd]
  ·have hge:k=l.length:=by simp at h;omega
   subst hge
   simp(etaStruct := .none)only[push_cast,zab,seval]
   exact zbr rfl trivial (Wk.of (by rw[zdy p l (fun j hj=>hn j hj hj)];rfl))
theorem ya6 (F:FuncId) (a b:List AV) (l:List Sea) (p:Sea→Bool) (hl:l.length≤9223372036854775807) (hp:∀n∈l,Spec Tryz.prog F (a ++ [yif n]++b) [] (B (p n)) []) (ha:∀h,cvL [] h a=a) (hb:∀h,cvL [] h b=b) :
 Spec Tryz.prog 121 [.c (.sl 3 (l.map zb5)),.clo (.func F) a b] [] (B (l.any p)) []:=by
 refine spB Tryz.func121 9 [.tmp 4] Tryz.results121 ?_
 simp(etaStruct := .none)only[push_cast,zab,seval]
 refine zem (yfh F a b l p hl hp ha hb) (by simp only[ha,hb,cvL,cv];exact WkL.refl _) ?_
 simp(etaStruct := .none)only[push_cast,zab,seval]
 exact zbr rfl trivial (Wk.of (by rw[zgw];rfl))
theorem yfu (o:Ord) (i:Int):Spec Tryz.prog 153 ([] ++ [zpt o] ++ [.fel 1 [[.v (.int .i64 i)]] 0 0]) [] (B (zjy i o)) []:=by
 refine spB Tryz.func153 13 [.tmp 3] Tryz.results153 ?_
 try refine xst ?_
 refine gcP (fun hcc=>zft o) ?_
 try refine xst ?_
 (first|(refine zaz rfl (Wk.of ?_);(try simp(etaStruct := .none)only[push_cast,zab,seval]);first|done|(simp[zjy, *];done)|(simp_all[zjy];done))|(refine zaz rfl ?_;(try simp(etaStruct := .none)only[push_cast,zab,seval]);(try simp[zjy, *]);(try exact wkc)))
theorem zh9 (s:Sea):(decide (s.late<0)||decide (1000000<s.late)||(s.gone&&(!decide (s.late=0)||decide (0<(s.waits.length:Int)))))=zm4 s:=by
 unfold zm4 zaj
 rw[Bool.eq_iff_iff];simp
theorem z5f (s:Sea) (i:Int) (hl:zgi s):Spec Tryz.prog 123 [yif s,I .i64 i] [] (B (zqj s i)) []:=by
 unfold zgi at hl
 refine spB Tryz.func123 33 [.tmp 4] Tryz.results123 ?_
 try refine xz1 (zh9 s) ?_
 refine cI (fun h1 => ?_) fun h1 => ?_
 ·try refine xz1 (zh9 s) ?_
  (first|(refine zaz rfl (Wk.of ?_);(try simp(etaStruct := .none)only[push_cast,zab,seval]);first|done|(simp[zqj, *];done)|(simp_all[zqj];done))|(refine zaz rfl ?_;(try simp(etaStruct := .none)only[push_cast,zab,seval]);(try simp[zqj, *]);(try exact wkc)))
 ·try refine xz1 (zh9 s) ?_
  refine zcw (ybn _ [] [.fel 1 [[.v (.int .i64 i)]] 0 0] s.waits (zjy i) (by omega) (fun o _=>yfu o i) (fun _=>rfl) (fun _=>rfl)) (WkL.refl _) rfl ?_
  try refine xz1 (zh9 s) ?_
  (first|(refine zaz rfl (Wk.of ?_);(try simp(etaStruct := .none)only[push_cast,zab,seval]);first|done|(simp[zqj, *];done)|(simp_all[zqj];done))|(refine zaz rfl ?_;(try simp(etaStruct := .none)only[push_cast,zab,seval]);(try simp[zqj, *]);(try exact wkc)))
theorem yfi (s:Sea) (hl:zgi s):Spec Tryz.prog 122 ([] ++ [yif s] ++ []) [] (B (decide (50<s.waits.length))) []:=by
 unfold zgi at hl
 refine spB Tryz.func122 7 [.tmp 2] Tryz.results122 ?_
 try refine xst ?_
 exact zbr rfl trivial (Wk.of (congrArg B (by rw[Bool.eq_iff_iff];simp;omega)))
theorem zd9 (l:List Sea) (hl:l.length≤9223372036854775807) (hs:∀s∈l,zgi s):Spec Tryz.prog 73 [.c (.sl 3 (l.map zb5))] [] (I .i64 (za9 l)) []:=by
 refine spB Tryz.func73 27 [.tmp 2] Tryz.results73 ?_
 try refine xst ?_
 refine cI (fun h1 => ?_) fun h1 => ?_
 ·have e:za9 l=1:=by unfold za9;rw[if_pos (by omega)]
  try refine xst ?_
  (first|(refine zaz rfl (Wk.of ?_);(try simp(etaStruct := .none)only[push_cast,zab,seval]);first|done|(simp[e, *];done)|(simp_all[e];done))|(refine zaz rfl ?_;(try simp(etaStruct := .none)only[push_cast,zab,seval]);(try simp[e, *]);(try exact wkc)))
 ·try refine xst ?_
  refine caP (ya6 _ [] [] l (fun s=>decide (50<s.waits.length)) hl (fun s hh=>yfi s (hs s hh)) (fun _=>rfl) (fun _=>rfl)) ?_
  try refine xst ?_
  refine cI (fun h2 => ?_) fun h2 => ?_
  ·have e:za9 l=2:=by unfold za9;rw[if_neg (by omega),if_pos h2]
   try refine xst ?_
   (first|(refine zaz rfl (Wk.of ?_);(try simp(etaStruct := .none)only[push_cast,zab,seval]);first|done|(simp[e, *];done)|(simp_all[e];done))|(refine zaz rfl ?_;(try simp(etaStruct := .none)only[push_cast,zab,seval]);(try simp[e, *]);(try exact wkc)))
  ·try refine xst ?_
   refine za3 (fun k:Nat=>⟨[(17,I .i64 k),(16,I .i64 l.length),(15,.c (.sl 3 (l.map zb5)))],[],0⟩) (fun k:Nat=>k≤l.length∧∀j,j<k→zqj (l.getD j default) j=true) (fun k:Nat=>l.length-k) (0) (⟨Nat.zero_le _,fun j h=>by omega⟩) (To.mk [] rfl rfl List.nodup_nil trivial ?_) ?_
   ·simp(etaStruct := .none)only[push_cast,zab,seval]
   rintro k ⟨hk,hn⟩
   try refine xst ?_
   refine cI (fun h3 => ?_) fun h3 => ?_
   ·have hlt:k<l.length:=by omega
    try refine xz2 (gd hlt) zct ?_
    refine caP (z5f (l.getD k default) k (hs _ (by rw[zag _ _ hlt];exact List.getElem_mem hlt))) ?_
    try refine xz2 (gd hlt) zct ?_
    refine cI (fun h4 => ?_) fun h4 => ?_
    ·have e:za9 l=4:=by
      unfold za9
      rw[if_neg (by omega),if_neg (by rw[h2];simp),if_neg]
      rw[List.all_eq_true]
      intro hh
      have:=hh k (by simp;omega)
      rw[h4]at this;simp at this
     try refine xz2 (gd hlt) zct ?_
     (first|(refine zaz rfl (Wk.of ?_);(try simp(etaStruct := .none)only[push_cast,zab,seval]);first|done|(simp[e, *];done)|(simp_all[e];done))|(refine zaz rfl ?_;(try simp(etaStruct := .none)only[push_cast,zab,seval]);(try simp[e, *]);(try exact wkc)))
    ·try refine xz2 (gd hlt) zct ?_
     refine⟨k+1,⟨by omega,fun j hj=>by rcases Nat.lt_or_ge j k with h|h;exact hn j h;rw[show j=k by omega];exact h4⟩,by omega,To.mk [] rfl rfl List.nodup_nil trivial ?_⟩
     ·(try(refine xz2 (gd hlt) zct ?_;try exact xtI))
   ·have e:za9 l=0:=by
     unfold za9
     rw[if_neg (by omega),if_neg (by rw[h2];simp),if_pos]
     rw[List.all_eq_true]
     intro i hi
     exact hn i (by simp at hi;omega)
    try refine xst ?_
    (first|(refine zaz rfl (Wk.of ?_);(try simp(etaStruct := .none)only[push_cast,zab,seval]);first|done|(simp[e, *];done)|(simp_all[e];done))|(refine zaz rfl ?_;(try simp(etaStruct := .none)only[push_cast,zab,seval]);(try simp[e, *]);(try exact wkc)))
theorem z9b (l:List Sea) (hl:l.length≤100000) (hs:∀s∈l,zgi s):Spec Tryz.prog 76 [.c (.sl 3 (l.map zb5))] [] (.own 0) [.row 169 3 (l.map zb5)]:=by
 refine spB Tryz.func76 25 [.tmp 2] Tryz.results76 ?_
 iterate 2(try simp(etaStruct := .none)only[push_cast,zab,seval,List.length_take,List.length_map];try refine xsu ?_)
 refine za3 (fun k:Nat=>⟨[(11,I .i64 k),(10,I .i64 l.length),(9,.c (.sl 3 (l.map zb5))),(3,.own 0)],[(0,.row 169 3 ((l.take k).map zb5))],1⟩) (fun k:Nat=>k≤l.length) (fun k:Nat=>l.length-k) (0) (Nat.zero_le _) (To.mk [0] rfl rfl (by decide) ?_ ?_) ?_
 ·simp(etaStruct := .none)only[push_cast,zab,seval]
 ·simp(etaStruct := .none)only[push_cast,zab,seval]
 rintro k hk
 iterate 2(try simp(etaStruct := .none)only[push_cast,zab,seval,List.length_take,List.length_map];try refine xsu ?_)
 refine cI (fun h1 => ?_) fun h1 => ?_
 ·have hlt:k<l.length:=by omega
  iterate 2(try simp(etaStruct := .none)only[push_cast,zab,seval,List.length_take,List.length_map,zaa _ _ _ hlt,zb5];try refine xsu ?_)
  have ts:=zas l k hlt
  refine caP (zih (l.getD k default).waits (hs _ (by rw[zag _ _ hlt];exact List.getElem_mem hlt))) ?_
  iterate 2(try simp(etaStruct := .none)only[push_cast,zab,seval,List.length_take,List.length_map,zaa _ _ _ hlt,zb5];try refine xsu ?_)
  refine⟨k+1,by omega,by omega,To.mk [3] rfl rfl (by decide) ?_ ?_⟩
  ·(iterate 2((try simp(etaStruct := .none)only[push_cast,zab,seval,ts,List.map_append,zb5]);(try(refine xsu ?_;try exact xtI))))
  ·(iterate 2((try simp(etaStruct := .none)only[push_cast,zab,seval,List.length_take,List.length_map,zaa _ _ _ hlt,zb5]);(try(refine xsu ?_;try exact xtI))))
 ·obtain rfl:k=l.length:=by omega
  iterate 2(try simp(etaStruct := .none)only[push_cast,zab,seval,List.length_take,List.length_map];try refine xsu ?_)
  refine zbc [0] rfl rfl (by decide) ⟨?_,trivial⟩ trivial ?_
  ·simp(etaStruct := .none)only[push_cast,zab,seval,List.take_length]
  ·simp(etaStruct := .none)only[push_cast,zab,seval]
end Go.Proofs.YtmjbgbmegbkmhaaGreat
namespace Go.Proofs.YtmjbgbmegbkmhaaGreat
set_option linter.all false
open Go.RowKit
def tkS (most:Int):List Ord→List Sea→List Ord × List Sea
 | out,[]=>(out,[])
 | out,s::r =>
  if 0<s.waits.length∧(out.length:Int)<most then ((tkS most (out ++ [s.waits.getD 0 default]) r).1,⟨s.waits.drop 1,s.late,s.gone⟩::(tkS most (out ++ [s.waits.getD 0 default]) r).2)
  else ((tkS most out r).1,s::(tkS most out r).2)
def yef (l:List Sea):Nat:=(l.map fun s=>s.waits.length).sum
theorem zsz (most:Int):∀(l:List Sea) (out:List Ord),(tkS most out l).1.length+yef (tkS most out l).2=out.length+yef l
 | [],out=>by simp[tkS,yef]
 | s::r,out=>by
  unfold tkS
  split
  ·rename_i h
   have:=zsz most r (out ++ [s.waits.getD 0 default])
   simp only[yef,List.map_cons,List.sum_cons,List.length_append,List.length_cons,List.length_nil,List.length_drop]at this ⊢
   omega
  ·have:=zsz most r out
   simp only[yef,List.map_cons,List.sum_cons]at this ⊢
   omega
theorem zuw (most:Int):∀(l:List Sea) (out:List Ord),out.length≤(tkS most out l).1.length
 | [],out=>by simp[tkS]
 | s::r,out=>by
  unfold tkS
  split
  ·have:=zuw most r (out ++ [s.waits.getD 0 default]);simp only[List.length_append,List.length_cons,List.length_nil]at this ⊢;omega
  ·exact zuw most r out
theorem z0b (most:Int):∀(l:List Sea) (out:List Ord),(out.length:Int)≤max most 0→((tkS most out l).1.length:Int)≤max most 0
 | [],out,h=>by simpa[tkS]using h
 | s::r,out,h=>by
  unfold tkS
  split
  ·exact z0b most r _ (by simp;omega)
  ·exact z0b most r out h
theorem z0a (most:Int):∀(l:List Sea) (out:List Ord),(tkS most out l).2.length=l.length
 | [],out=>by simp[tkS]
 | s::r,out=>by unfold tkS;split<;>simp[z0a most r]
theorem zuv (most:Int):∀(l:List Sea) (out:List Ord),(tkS most out l).1.length=out.length→tkS most out l=(out,l)
 | [],out,_=>by simp[tkS]
 | s::r,out,h=>by
  unfold tkS at h ⊢
  split at h
  ·have:=zuw most r (out ++ [s.waits.getD 0 default])
   simp only[List.length_append,List.length_cons,List.length_nil]at this h
   omega
  ·rename_i hc
   rw[if_neg hc,zuv most r out h]
def zsi (most:Int) (x:List Ord × List Sea):Prop:=¬((x.1.length:Int)<most)∨∀s∈x.2,s.waits.length=0
theorem zn5 {most:Int} : ∀ {l:List Sea} {out:List Ord},zsi most (out,l)→tkS most out l=(out,l)
 | [],out,_=>by simp[tkS]
 | s::r,out,h=>by
  have hc:¬(0<s.waits.length∧(out.length:Int)<most):=by
   rcases h with h|h
   ·exact fun q=>h q.2
   ·have:=h s (by simp);omega
  unfold tkS
  rw[if_neg hc,zn5 (l:=r) (out:=out) (by rcases h with h|h;exact .inl h;exact .inr fun s hs=>h s (by simp[hs]))]
theorem z0g {most:Int} {x:List Ord × List Sea} (h:zsi most x):tkS most x.1 x.2=x:=by
 obtain⟨a,b⟩:=x
 exact zn5 h
def itS (most:Int):Nat→List Ord × List Sea→List Ord × List Sea
 | 0,x=>x
 | n+1,x=>itS most n (tkS most x.1 x.2)
theorem zkn (most:Int):∀(n:Nat) (x:List Ord × List Sea),itS most (n+1) x=tkS most (itS most n x).1 (itS most n x).2
 | 0,x=>rfl
 | n+1,x=>by rw[itS,zkn most n];rfl
theorem zts (most:Int) (x:List Ord × List Sea) (a:Nat) (h:tkS most (itS most a x).1 (itS most a x).2=itS most a x):∀d,itS most (a+d) x=itS most a x
 | 0=>rfl
 | d+1=>by rw[←Nat.add_assoc,zkn,zts most x a h d,h]
theorem yg0 (most:Int) (x:List Ord × List Sea) (a b:Nat) (ha:tkS most (itS most a x).1 (itS most a x).2=itS most a x) (hb:tkS most (itS most b x).1 (itS most b x).2=itS most b x):itS most a x=itS most b x:=by
 rcases Nat.le_total a b with h|h
 ·rw[show b=a+(b-a)by omega,zts most x a ha]
 ·rw[show a=b+(a-b)by omega,zts most x b hb]
def zbz (s:Sea):Sea:=⟨s.waits,if 0<s.waits.length then 0 else if s.gone then s.late else min (s.late+1) 1000000,s.gone⟩
def zde (most:Int) (l:List Sea):List Ord × List Sea:=itS most 50 ([],l.map zbz)
theorem zz9 (most:Int) (n:Nat):∀(l:List Sea) (out:List Ord),((tkS most out l).1.length:Int)<most→(∀s∈l,s.waits.length≤n+1)→∀s∈(tkS most out l).2,s.waits.length≤n
 | [],out,_,_,s,hs=>by simp[tkS]at hs
 | x::r,out,h,hl,s,hs=>by
  unfold tkS at h hs
  split at h
  ·rename_i hc
   rw[if_pos hc]at hs
   simp only at h hs
   rcases List.mem_cons.1 hs with rfl|hs
   ·have:=hl x (by simp);simp only[List.length_drop];omega
   ·exact zz9 most n r _ h (fun s hs=>hl s (by simp[hs])) s hs
  ·rename_i hc
   rw[if_neg hc]at hs
   simp only at h hs
   rcases List.mem_cons.1 hs with rfl|hs
   ·have:=zuw most r out;omega
   ·exact zz9 most n r _ h (fun s hs=>hl s (by simp[hs])) s hs
theorem z9o {most:Int} {x:List Ord × List Sea} (h:zsi most x):∀n,itS most n x=x
 | 0=>rfl
 | n+1=>by
  have:=zn5 (l:=x.2) (out:=x.1) h
  rw[itS,this];exact z9o h n
theorem zwc (most:Int):∀(n:Nat) (x:List Ord × List Sea),(∀s∈x.2,s.waits.length≤n)→zsi most (itS most n x)
 | 0,x,h => .inr fun s hs=>Nat.le_zero.1 (h s hs)
 | n+1,x,h=>by
  rw[itS]
  by_cases hc:((tkS most x.1 x.2).1.length:Int)<most
  ·exact zwc most n _ (zz9 most n x.2 x.1 hc h)
  ·have hs:zsi most (tkS most x.1 x.2) := .inl hc
   rw[z9o hs];exact hs
theorem z8b {most:Int} {l:List Sea} {n:Nat} (hw:∀s∈l,s.waits.length≤50) (h:tkS most (itS most n ([],l.map zbz)).1 (itS most n ([],l.map zbz)).2=itS most n ([],l.map zbz)):zde most l=itS most n ([],l.map zbz):=by
 have hs:∀m,50≤m→tkS most (itS most m ([],l.map zbz)).1 (itS most m ([],l.map zbz)).2=itS most m ([],l.map zbz):=fun m hm=>by
  refine z0g (zwc most m _ fun s hs => ?_)
  obtain⟨t,ht,rfl⟩:=List.mem_map.1 hs
  exact Nat.le_trans (hw t ht) hm
 have key:∀m,50≤m→itS most m ([],l.map zbz)=itS most n ([],l.map zbz):=fun m hm=>yg0 most _ m n (hs m hm) h
 unfold zde
 exact key 50 (Nat.le_refl _)
theorem zco {l:List Sea} (h:za9 l=0):1≤l.length∧l.length≤8∧(∀s∈l,s.waits.length≤50)∧∀k,k<l.length→zqj (l.getD k default) k=true:=by
 unfold za9 at h
 split at h
 ·simp at h
 ·split at h
  ·simp at h
  ·rename_i h1 h2
   split at h
   ·rename_i h3
    refine⟨by omega,by omega,fun s hs => ?_,fun k hk => ?_⟩
    ·simp only[List.any_eq_true,decide_eq_true_eq,not_exists,not_and]at h2
     have:=h2 s hs;omega
    ·exact List.all_eq_true.1 h3 k (by simpa using hk)
   ·simp at h
theorem zs5 {s:Sea} {i:Int} (h:zqj s i=true):(0≤s.late∧s.late≤1000000)∧(s.gone=true→s.late=0∧s.waits.length=0)∧∀o∈s.waits,o.by_=i∧ze5 o=0:=by
 unfold zqj zm4 at h
 simp only[Bool.and_eq_true,Bool.not_eq_true',Bool.or_eq_false_iff,Bool.not_eq_false',within_iff,List.any_eq_false]at h
 refine⟨h.1.1,fun hg => ?_,fun o ho => ?_⟩
 ·have:=h.1.2
  rw[hg]at this
  simp at this
  exact⟨this.1,by rw[this.2];rfl⟩
 ·have:=h.2 o ho
  unfold zjy at this
  simp at this
  exact this
theorem ydc {α : Type} [Inhabited α] (l:List α) (i:Nat) (h:i<l.length):l.drop i=l.getD i default::l.drop (i+1):=by rw[List.drop_eq_getElem_cons h,zag _ _ h]
theorem z5r {l:List Sea} {i:Nat} {x:Sea} (h:∀s∈l,zgi s) (hx:zgi x):∀s∈l.set i x,zgi s:=fun s hs=>by
 rcases List.mem_or_eq_of_mem_set hs with h'|h'
 ·exact h s h'
 ·rw[h'];exact hx
end Go.Proofs.YtmjbgbmegbkmhaaGreat
namespace Go.Proofs.YtmjbgbmegbkmhaaGreat
set_option linter.all false
open Go.RowKit
set_option maxRecDepth 100000
set_option maxHeartbeats 1000000
def zf7 (w:Wld):Prop:=w.f.p.length≤9223372036854775807∧w.bases.length≤9223372036854775807∧w.stocks.length≤9223372036854775807∧w.mines.length≤9223372036854775807∧w.troops.length≤9223372036854775807
abbrev znz (w:Wld):List AV := [I .i64 w.f.w,I .i64 w.f.h,.c (.sl 1 (w.f.p.map zae)),.c (.sl 2 (w.bases.map zbb)),.c (.sl 1 (w.stocks.map zae)),.c (.sl 1 (w.mines.map zae)),.c (.sl 7 (w.troops.map za2)),I .i64 w.next,I .i64 w.now]
abbrev yed (t:Trp):AV := .agg [I .i64 t.id,I .i64 t.owner,I .i64 t.kind,I .i64 t.c.x,I .i64 t.c.y,I .i64 t.life,I .i64 t.load]
abbrev ylq (t:Trp):List AV := [I .i64 t.id,I .i64 t.owner,I .i64 t.kind,I .i64 t.c.x,I .i64 t.c.y,I .i64 t.life,I .i64 t.load]
theorem zsn {w:Wld} (hf:zb7 w.f=0) (hb:¬(8<w.bases.length∨100<w.troops.length)) (h1:zjt w=true) (h:zh1 w=true):zaw w=0:=by
 unfold zaw;rw[if_neg (by simp[hf]),if_neg hb,h1,h];rfl
theorem z35 (l:List Cel) (v:Cel) (hl:l.length≤9223372036854775807):Spec Tryz.prog 143 [.c (.sl 2 (l.map zbb)),zhv v] [] (I .i64 (zkm (fun x=>decide (v=x)) l)) []:=by
 refine spB Tryz.func143 19 [.tmp 4] Tryz.results143 ?_
 try refine xst ?_
 refine za3 (fun k:Nat=>⟨[(8,I .i64 k),(7,I .i64 l.length),(3,.ptr 0 0 0),(0,.c (.sl 2 (l.map zbb)))],[(0,.blk 46 [I .i64 v.x,I .i64 v.y])],1⟩) (fun k:Nat=>k≤l.length∧∀j (hj:j<l.length),j<k→decide (v=l[j])=false) (fun k:Nat=>l.length-k) (0) (⟨Nat.zero_le _,fun j _ h=>by omega⟩) (To.mk [0] rfl rfl (by decide) ?_ ?_) ?_
 ·simp(etaStruct := .none)only[push_cast,zab,seval]
 ·simp(etaStruct := .none)only[push_cast,zab,seval]
 rintro k ⟨hk,hn⟩
 try refine xst ?_
 refine za1 (fun h1 => ?_) (fun h1 => ?_)
 ·(try replace h1:=xhh h1)
  have hlt:k<l.length:=by omega
  try refine xz3 (gd hlt) zcg zd5 ?_
  (try(refine⟨by kernel_rfl,?_⟩))
  try refine xz3 (gd hlt) zcg zd5 ?_
  refine cI (fun h2 => ?_) fun h2 => ?_
  ·try refine xz3 (gd hlt) zcg zd5 ?_
   exact zbr rfl trivial (Wk.of (by rw[zey (fun x=>decide (v=x)) l k hlt (by rw[←zag _ _ hlt];simpa using h2) hn];rfl))
  ·try refine xz3 (gd hlt) zcg zd5 ?_
   refine⟨k+1,⟨by omega,fun j hj hjk=>by
 rcases Nat.lt_or_ge j k with h|h
 ·simpa using hn j hj h
 ·obtain rfl:j=k:=by omega
  rw[←zag _ _ hj];simpa using h2⟩,by omega,To.mk [0] rfl rfl (by decide) ?_ ?_⟩
   ·(try(refine xz3 (gd hlt) zcg zd5 ?_;try exact xtI))
   ·(try(refine xz3 (gd hlt) zcg zd5 ?_;try exact xtI))
 ·(try replace h1:=xhh h1)
  try refine xst ?_
  exact zbr rfl trivial (Wk.of (by rw[zdy (fun x=>decide (v=x)) l (fun j hj=>hn j hj (by omega))];rfl))
theorem zse (l:List Cel) (v:Cel) (hl:l.length≤9223372036854775807):Spec Tryz.prog 104 [.c (.sl 2 (l.map zbb)),zhv v] [] (B (l.any (fun x=>decide (v=x)))) []:=by
 refine spB Tryz.func104 9 [.tmp 4] Tryz.results104 ?_
 iterate 2(try simp(etaStruct := .none)only[push_cast,zab,seval,zgw];try refine xsu ?_)
 refine caP (z35 l v hl) ?_
 iterate 2(try simp(etaStruct := .none)only[push_cast,zab,seval,zgw];try refine xsu ?_)
 exact xrz rfl
theorem zk5 (f:Fld) (c:Cel) (h:zb7 f=0) (hl:f.p.length≤9223372036854775807):Spec Tryz.prog 103 [z3k f,zhv c] [] (B (zce f c)) []:=by
 refine spB Tryz.func103 19 [.tmp 4] Tryz.results103 ?_
 try refine xst ?_
 refine caP (zzs f c hl) ?_
 try refine xst ?_
 exact zbr rfl trivial (Wk.of (congrArg B (by unfold atV zce;rw[if_neg (by simp[h])];cases inF f c<;>simp)))
theorem zbu (n a b:Int):Spec Tryz.prog 105 [I .i64 n,I .i64 a,I .i64 b] [] (B (zaj n a b)) []:=by
 refine spB Tryz.func105 15 [.tmp 6] Tryz.results105 ?_
 try refine xst ?_
 exact zbr rfl trivial (Wk.of (congrArg B (by unfold zaj;first|rfl|simp)))
def zgb (k:Int):Int:=if k=1∨k=2 then 0 else 1
theorem zhh (k:Int):Spec Tryz.prog 106 [I .i64 k] [] (.tup [ym5 (zbl k),I .i64 (zgb k)]) []:=by
 refine spB Tryz.func106 12 [.cell 2 222,.tmp 3] Tryz.results106 ?_
 try refine xst ?_
 refine cI (fun h1 => ?_) fun h1 => ?_
 ·try refine xst ?_
  (first|(refine zaz rfl (Wk.of ?_);(try simp(etaStruct := .none)only[push_cast,zab,seval]);first|done|(simp[zbl,zgb, *];done)|(simp_all[zbl,zgb];done))|(refine zaz rfl ?_;(try simp(etaStruct := .none)only[push_cast,zab,seval]);(try simp[zbl,zgb, *]);(try exact wkc)))
 ·try refine xst ?_
  refine cI (fun h2 => ?_) fun h2 => ?_
  ·try refine xst ?_
   (first|(refine zaz rfl (Wk.of ?_);(try simp(etaStruct := .none)only[push_cast,zab,seval]);first|done|(simp[zbl,zgb, *];done)|(simp_all[zbl,zgb];done))|(refine zaz rfl ?_;(try simp(etaStruct := .none)only[push_cast,zab,seval]);(try simp[zbl,zgb, *]);(try exact wkc)))
  ·try refine xst ?_
   (first|(refine zaz rfl (Wk.of ?_);(try simp(etaStruct := .none)only[push_cast,zab,seval]);first|done|(simp[zbl,zgb, *];done)|(simp_all[zbl,zgb];done))|(refine zaz rfl ?_;(try simp(etaStruct := .none)only[push_cast,zab,seval]);(try simp[zbl,zgb, *]);(try exact wkc)))
theorem z8i (w:Wld) (i:Nat) (hi:i<w.bases.length):((w.bases.take i).any fun x=>decide (w.bases.getD i default=x)) = !zge (fun j => !decide (w.bases.getD j default=w.bases.getD i default)) i:=by
 rw[Bool.eq_iff_iff,Bool.not_eq_true',←Bool.not_eq_true,zbk,List.any_eq_true]
 constructor
 ·rintro⟨x,hx,h⟩ hh
  obtain⟨j,hj,rfl⟩:=List.getElem_of_mem hx
  rw[List.length_take]at hj
  have:=hh j (by omega)
  rw[List.getElem_take]at h
  rw[zag _ _ (by omega)]at this
  simp only[decide_eq_true_eq]at h
  simp only[Bool.not_eq_true',decide_eq_false_iff_not]at this
  exact this h.symm
 ·intro hh
  apply Classical.byContradiction
  intro hn
  apply hh
  intro j hj
  simp only[Bool.not_eq_true',decide_eq_false_iff_not]
  intro he
  apply hn
  refine⟨w.bases.getD j default,?_,decide_eq_true he.symm⟩
  rw[zag _ _ (by omega)]
  exact List.mem_take_iff_getElem.2 ⟨j,by omega,rfl⟩
def zec (w:Wld):Bool:=decide (w.stocks.length=w.bases.length)&&zge (zmz w) w.bases.length
def zij (w:Wld):Bool:=decide (w.mines.length=w.f.p.length)&&zge (zmr w) w.mines.length
def zdj (w:Wld):Bool:=zaj w.next 1 1000000&&zaj w.now 0 1000000&&zge (zfb w) w.troops.length
theorem ptm (w:Wld):(zec w&&zij w&&zdj w)=(zjt w&&zh1 w):=by
 unfold zec zij zdj zjt zh1
 cases decide (w.stocks.length=w.bases.length)<;>cases decide (w.mines.length=w.f.p.length)<;>cases zaj w.next 1 1000000<;>cases zaj w.now 0 1000000<;>simp
theorem zkt {p:Nat→Bool} {n k:Nat} (h:k<n) (hp:p k=false):zge p n=false:=by
 rw[←Bool.not_eq_true,zbk];intro hh
 have:=hh k h
 rw[hp]at this;simp at this
theorem zxq (w:Wld) (hl:zf7 w) (hf:zb7 w.f=0):Spec Tryz.prog 58 [zdi w] [] (B (zec w)) []:=by
 obtain⟨l1,l2,l3,l4,l5⟩:=hl
 refine spB Tryz.func58 43 [.tmp 2] Tryz.results58 ?_
 try refine xst ?_
 refine cI (fun h1 => ?_) fun h1 => ?_
 ·have e:zec w=false:=by unfold zec;rw[decide_eq_false (by omega)];rfl
  try refine xst ?_
  (first|(refine zaz rfl (Wk.of ?_);(try simp(etaStruct := .none)only[push_cast,zab,seval]);first|done|(simp[e, *];done)|(simp_all[e];done))|(refine zaz rfl ?_;(try simp(etaStruct := .none)only[push_cast,zab,seval]);(try simp[e, *]);(try exact wkc)))
 ·have hls:w.stocks.length=w.bases.length:=by omega
  try refine xst ?_
  refine za3 (fun k:Nat=>⟨[(15,I .i64 k),(14,I .i64 w.bases.length),(13,.c (.sl 2 (w.bases.map zbb))),(1,.ptr 0 0 0)],[(0,.blk 28 (znz w))],1⟩) (fun k:Nat=>k≤w.bases.length∧zge (zmz w) k=true) (fun k:Nat=>w.bases.length-k) (0) (⟨Nat.zero_le _,rfl⟩) (To.mk [0] rfl rfl (by decide) ?_ ?_) ?_
  ·simp(etaStruct := .none)only[push_cast,zab,seval]
  ·simp(etaStruct := .none)only[push_cast,zab,seval]
  rintro k ⟨hk,hn⟩
  try refine xst ?_
  refine cI (fun h2 => ?_) fun h2 => ?_
  ·have hlt:k<w.bases.length:=by omega
   have hlt2:k<w.stocks.length:=by omega
   have et:(w.bases.map zbb).take k=(w.bases.take k).map zbb:=by rw[List.map_take]
   have ba:=z8i w k hlt
   try refine xz5 (gd hlt) zcg (gd hlt2) zbe et ?_
   refine caP (zk5 w.f (w.bases.getD k default) hf l1) ?_
   try refine xz5 (gd hlt) zcg (gd hlt2) zbe et ?_
   refine gcP (fun hcc=>zse (w.bases.take k) (w.bases.getD k default) (by rw[List.length_take];omega)) ?_
   try refine xz5 (gd hlt) zcg (gd hlt2) zbe et ?_
   refine gcP (fun hcc=>zbu (w.stocks.getD k default) 0 1000000) ?_
   try refine xz5 (gd hlt) zcg (gd hlt2) zbe et ?_
   (try(refine⟨by kernel_rfl,?_⟩))
   try refine xz5 (gd hlt) zcg (gd hlt2) zbe et ?_
   refine cI (fun h3 => ?_) fun h3 => ?_
   ·have e0:zmz w k=false:=by
     unfold zmz
     rw[ba]at h3
     rcases h3 with (h|h)|h
     ·rw[h];rfl
     ·have h':zge (fun j => !decide (w.bases.getD j default=w.bases.getD k default)) k=false:=by simpa using h
      rw[h'];simp
     ·rw[h];simp
    have e:zec w=false:=by unfold zec;rw[zkt hlt e0];simp
    try refine xz5 (gd hlt) zcg (gd hlt2) zbe et ?_
    (first|(refine zaz rfl (Wk.of ?_);(try simp(etaStruct := .none)only[push_cast,zab,seval]);first|done|(simp[e, *];done)|(simp_all[e];done))|(refine zaz rfl ?_;(try simp(etaStruct := .none)only[push_cast,zab,seval]);(try simp[e, *]);(try exact wkc)))
   ·have e0:zmz w k=true:=by
     unfold zmz
     rw[ba]at h3
     rw[h3.1.1,h3.2]
     simpa using h3.1.2
    try refine xz5 (gd hlt) zcg (gd hlt2) zbe et ?_
    refine⟨k+1,⟨by omega,by rw[zge,hn,e0];rfl⟩,by omega,To.mk [0] rfl rfl (by decide) ?_ ?_⟩
    ·(try(refine xz5 (gd hlt) zcg (gd hlt2) zbe et ?_;try exact xtI))
    ·(try(refine xz5 (gd hlt) zcg (gd hlt2) zbe et ?_;try exact xtI))
  ·obtain rfl:k=w.bases.length:=by omega
   have e:zec w=true:=by unfold zec;rw[decide_eq_true hls,hn];rfl
   try refine xst ?_
   (first|(refine zaz rfl (Wk.of ?_);(try simp(etaStruct := .none)only[push_cast,zab,seval]);first|done|(simp[e, *];done)|(simp_all[e];done))|(refine zaz rfl ?_;(try simp(etaStruct := .none)only[push_cast,zab,seval]);(try simp[e, *]);(try exact wkc)))
theorem z48 (w:Wld) (hl:zf7 w):Spec Tryz.prog 59 [zdi w] [] (B (zij w)) []:=by
 obtain⟨l1,l2,l3,l4,l5⟩:=hl
 refine spB Tryz.func59 38 [.tmp 2] Tryz.results59 ?_
 try refine xst ?_
 refine cI (fun h1 => ?_) fun h1 => ?_
 ·have e:zij w=false:=by unfold zij;rw[decide_eq_false (by omega)];rfl
  try refine xst ?_
  (first|(refine zaz rfl (Wk.of ?_);(try simp(etaStruct := .none)only[push_cast,zab,seval]);first|done|(simp[e, *];done)|(simp_all[e];done))|(refine zaz rfl ?_;(try simp(etaStruct := .none)only[push_cast,zab,seval]);(try simp[e, *]);(try exact wkc)))
 ·have hls:w.mines.length=w.f.p.length:=by omega
  try refine xst ?_
  refine za3 (fun k:Nat=>⟨[(16,I .i64 k),(15,I .i64 w.mines.length),(14,.c (.sl 1 (w.mines.map zae))),(1,.ptr 0 0 0)],[(0,.blk 28 (znz w))],1⟩) (fun k:Nat=>k≤w.mines.length∧zge (zmr w) k=true) (fun k:Nat=>w.mines.length-k) (0) (⟨Nat.zero_le _,rfl⟩) (To.mk [0] rfl rfl (by decide) ?_ ?_) ?_
  ·simp(etaStruct := .none)only[push_cast,zab,seval]
  ·simp(etaStruct := .none)only[push_cast,zab,seval]
  rintro k ⟨hk,hn⟩
  try refine xst ?_
  refine cI (fun h2 => ?_) fun h2 => ?_
  ·have hlt:k<w.mines.length:=by omega
   have hlt2:k<w.f.p.length:=by omega
   try refine xz3 (gd hlt) (gd hlt2) zbe ?_
   refine caP (zbu (w.mines.getD k default) 0 1000000) ?_
   try refine xz3 (gd hlt) (gd hlt2) zbe ?_
   refine cI (fun h3 => ?_) fun h3 => ?_
   ·have e0:zmr w k=false:=by
     unfold zmr
     rcases h3 with h|⟨h,h'⟩
     ·rw[h];rfl
     ·rw[decide_eq_false (by omega),decide_eq_false (by omega)];simp
    have e:zij w=false:=by unfold zij;rw[zkt hlt e0];simp
    try refine xz3 (gd hlt) (gd hlt2) zbe ?_
    (first|(refine zaz rfl (Wk.of ?_);(try simp(etaStruct := .none)only[push_cast,zab,seval]);first|done|(simp[e, *];done)|(simp_all[e];done))|(refine zaz rfl ?_;(try simp(etaStruct := .none)only[push_cast,zab,seval]);(try simp[e, *]);(try exact wkc)))
   ·have e0:zmr w k=true:=by
     unfold zmr
     rw[h3.1]
     have:=within_iff.1 h3.1
     simp only[Bool.true_and,Bool.or_eq_true,decide_eq_true_eq]
     omega
    try refine xz3 (gd hlt) (gd hlt2) zbe ?_
    refine⟨k+1,⟨by omega,by rw[zge,hn,e0];rfl⟩,by omega,To.mk [0] rfl rfl (by decide) ?_ ?_⟩
    ·(try(refine xz3 (gd hlt) (gd hlt2) zbe ?_;try exact xtI))
    ·(try(refine xz3 (gd hlt) (gd hlt2) zbe ?_;try exact xtI))
  ·obtain rfl:k=w.mines.length:=by omega
   have e:zij w=true:=by unfold zij;rw[decide_eq_true hls,hn];rfl
   try refine xst ?_
   (first|(refine zaz rfl (Wk.of ?_);(try simp(etaStruct := .none)only[push_cast,zab,seval]);first|done|(simp[e, *];done)|(simp_all[e];done))|(refine zaz rfl ?_;(try simp(etaStruct := .none)only[push_cast,zab,seval]);(try simp[e, *]);(try exact wkc)))
def zho (w:Wld) (i:Nat):Int:=if i=0 then 0 else (w.troops.getD (i-1) default).id
theorem ycj (w:Wld):zho w 0=0:=rfl
theorem yci (w:Wld) (k:Nat):zho w (k+1)=(w.troops.getD k default).id:=by simp[zho]
def zi3 (w:Wld) (k:Nat) (c:Cel):Bool := !zge (fun j => !decide ((w.troops.getD j default).c=c)) k
theorem ya5 (w:Wld) (c:Cel):zi3 w 0 c=false:=rfl
theorem zxy (w:Wld) (k:Nat) (c:Cel):zi3 w (k+1) c=(zi3 w k c||decide ((w.troops.getD k default).c=c)):=by
 unfold zi3;rw[zge];simp[Bool.not_and]
theorem zpp (p q:Nat→Bool):∀n,zge (fun j=>p j&&q j) n=(zge p n&&zge q n)
 | 0=>rfl
 | n+1=>by
  rw[zge,zge,zge,zpp p q n]
  cases zge p n<;>cases zge q n<;>cases p n<;>cases q n<;>rfl
theorem zwa {w:Wld} {k:Nat} (h:zge (zfb w) k=true) (t:Trp):0≤zho w k∧(zho w k<t.id↔1≤t.id∧zge (fun j=>decide ((w.troops.getD j default).id<t.id)) k=true):=by
 have hh:=(zbk _ _).1 h
 cases k with
 | zero=>simp[zho,zge];omega
 | succ k =>
  have hk:=hh k (by omega)
  unfold zfb yee z85 at hk
  simp only[Bool.and_eq_true,zpp,within_iff]at hk
  have h2:=(zbk _ _).1 hk.2.2.1
  have el:zho w (k+1)=(w.troops.getD k default).id:=by simp[zho]
  rw[el,zbk]
  refine⟨by omega,fun h3=>⟨by omega,fun j hj => ?_⟩,fun h3 => ?_⟩
  ·rw[decide_eq_true_eq]
   rcases Nat.lt_or_ge j k with h4|h4
   ·have:=h2 j h4
    rw[decide_eq_true_eq]at this;omega
   ·rw[show j=k by omega];exact h3
  ·have:=h3.2 k (by omega)
   rwa [decide_eq_true_eq]at this
theorem zp3 {w:Wld} {k:Nat} (h:zge (zfb w) k=true):zfb w k=(zaj (w.troops.getD k default).kind 1 2&&zaj (w.troops.getD k default).id (zho w k+1) (w.next-1)&&zaj (w.troops.getD k default).owner 0 ((w.bases.length:Int)-1)&&zce w.f (w.troops.getD k default).c&&zaj (w.troops.getD k default).life 1 (zbl (w.troops.getD k default).kind).life&&zaj (w.troops.getD k default).load 0 (5*(2-(w.troops.getD k default).kind)) && !zi3 w k (w.troops.getD k default).c):=by
 obtain⟨_,h2⟩:=zwa h (w.troops.getD k default)
 unfold zfb yee z85 zi3
 rw[zpp,Bool.not_not]
 have e:zaj (w.troops.getD k default).id (zho w k+1) (w.next-1)=(zaj (w.troops.getD k default).id 1 (w.next-1)&&zge (fun j=>decide ((w.troops.getD j default).id<(w.troops.getD k default).id)) k):=by
  rw[Bool.eq_iff_iff,Bool.and_eq_true,within_iff,within_iff]
  constructor
  ·rintro⟨a,b⟩
   have:=h2.1 (by omega)
   exact⟨⟨this.1,b⟩,this.2⟩
  ·rintro⟨⟨a,b⟩,c⟩
   have:=h2.2 ⟨a,c⟩
   exact⟨by omega,b⟩
 rw[e]
 cases zaj (w.troops.getD k default).kind 1 2<;>cases zaj (w.troops.getD k default).id 1 (w.next-1)<;>cases zaj (w.troops.getD k default).owner 0 ((w.bases.length:Int)-1)<;>cases zce w.f (w.troops.getD k default).c<;>cases zaj (w.troops.getD k default).life 1 (zbl (w.troops.getD k default).kind).life<;>cases zaj (w.troops.getD k default).load 0 (5*(2-(w.troops.getD k default).kind))<;>simp
theorem ygy {k:Int} (h:¬zgb k=0):zaj k 1 2=false:=by
 rw[zul];unfold zgb at h;split at h<;>omega
theorem ygx {k:Int} (h:zgb k=0):zaj k 1 2=true:=by
 rw[within_iff];unfold zgb at h;split at h<;>omega
theorem zro {k:Int} (h:zaj k 1 2=true):5*(2-k)=if k=1 then 5 else 0:=by
 rw[within_iff]at h;split<;>omega
def zsy (c:Cel):List Int := [c.x,c.y]
theorem tkeyC_inj {a b:Cel} : zsy a=zsy b↔a=b:=by
 cases a;cases b;simp[zsy]
theorem zz3 (w:Wld) (hl:zf7 w) (hf:zb7 w.f=0) (hn1:zaj w.next 1 1000000=true) (hn2:zaj w.now 0 1000000=true):Spec Tryz.prog 60 [zdi w] [] (B (zdj w)) []:=by
 obtain⟨l1,l2,l3,l4,l5⟩:=hl
 have hnx:=within_iff.1 hn1
 refine spB Tryz.func60 96 [.tmp 2] Tryz.results60 ?_
 iterate 2(try simp(etaStruct := .none)only[push_cast,zab,seval,beq_self_eq_true];try refine xsu ?_)
 refine za3 (fun x:Nat × List (List Int × Int)=>⟨[(14,I .i64 x.1),(13,I .i64 w.troops.length),(12,.c (.sl 7 (w.troops.map za2))),(4,.map 1),(3,I .i64 (zho w x.1)),(1,.ptr 0 0 0)],[(0,.blk 28 (znz w)),(1,.mp true 2 x.2)],2⟩) (fun x:Nat × List (List Int × Int)=>x.1≤w.troops.length∧zge (zfb w) x.1=true∧(∀c:Cel,zdg (zsy c) x.2=if zi3 w x.1 c then 1 else 0)) (fun x:Nat × List (List Int × Int)=>w.troops.length-x.1) ((0,[])) (⟨Nat.zero_le _,rfl,fun c=>by rw[ya5];rfl⟩) (To.mk [0,1] rfl rfl (by decide) ?_ ?_) ?_
 ·simp(etaStruct := .none)only[push_cast,zab,seval]
 ·simp(etaStruct := .none)only[push_cast,zab,seval,ycj]
 rintro⟨k,es⟩ ⟨hk,hn,hm⟩
 simp only at hk hn hm
 iterate 2(try simp(etaStruct := .none)only[push_cast,zab,seval,beq_self_eq_true];try refine xsu ?_)
 refine za1 (fun h1 => ?_) (fun h1 => ?_)
 ·(try replace h1:=xhh h1)
  have hlt:k<w.troops.length:=by omega
  have hla:=(zwa hn (w.troops.getD k default)).1
  have hla2:zho w k≤1000000:=by
   unfold zho
   split
   ·omega
   ·have:=(zbk _ _).1 hn (k-1) (by omega)
    unfold zfb yee at this
    simp only[Bool.and_eq_true,within_iff]at this
    omega
  iterate 2(try simp(etaStruct := .none)only[push_cast,zab,seval,beq_self_eq_true,zaa _ _ _ hlt,za2];try refine xsu ?_)
  refine caP (zhh (w.troops.getD k default).kind) ?_
  iterate 2(try simp(etaStruct := .none)only[push_cast,zab,seval,beq_self_eq_true,zaa _ _ _ hlt,za2];try refine xsu ?_)
  refine znq (fun _u:Unit=>⟨[(14,I .i64 k),(13,I .i64 w.troops.length),(12,.c (.sl 7 (w.troops.map za2))),(9,I .i64 (if (w.troops.getD k default).kind=1 then 5 else 0)),(8,I .i64 (zgb (w.troops.getD k default).kind)),(7,.ptr 3 0 0),(6,.ptr 2 0 0),(4,.map 1),(3,I .i64 (zho w k)),(1,.ptr 0 0 0)],[(0,.blk 28 (znz w)),(1,.mp true 2 es),(2,.blk 108 (ylq (w.troops.getD k default))),(3,.blk 222 [I .i64 (zbl (w.troops.getD k default).kind).life,I .i64 (zbl (w.troops.getD k default).kind).blow,I .i64 (zbl (w.troops.getD k default).kind).load,I .i64 (zbl (w.troops.getD k default).kind).price])],4⟩) (fun _u:Unit=>Tr) (fun h2 => ?_) (fun h2 => ?_) ?_
  ·(try replace h2:=xhh h2)
   iterate 2(try simp(etaStruct := .none)only[push_cast,zab,seval,beq_self_eq_true,zaa _ _ _ hlt,za2];try refine xsu ?_)
   refine⟨(),trI,To.mk [0,1,2,3] rfl rfl (by decide) ?_ ?_⟩
   ·(iterate 2((try simp(etaStruct := .none)only[push_cast,zab,seval,beq_self_eq_true,zaa _ _ _ hlt,za2]);(try(refine xsu ?_;try exact xtI))))
   ·(iterate 2((try simp(etaStruct := .none)only[push_cast,zab,seval,if_pos h2]);(try(refine xsu ?_;try exact xtI))))
  ·(try replace h2:=xhh h2)
   iterate 2(try simp(etaStruct := .none)only[push_cast,zab,seval,beq_self_eq_true,zaa _ _ _ hlt,za2];try refine xsu ?_)
   refine⟨(),trI,To.mk [0,1,2,3] rfl rfl (by decide) ?_ ?_⟩
   ·(iterate 2((try simp(etaStruct := .none)only[push_cast,zab,seval,beq_self_eq_true,zaa _ _ _ hlt,za2]);(try(refine xsu ?_;try exact xtI))))
   ·(iterate 2((try simp(etaStruct := .none)only[push_cast,zab,seval,if_neg h2]);(try(refine xsu ?_;try exact xtI))))
  ·rintro _ _
   iterate 2(try simp(etaStruct := .none)only[push_cast,zab,seval,beq_self_eq_true,zaa _ _ _ hlt,za2];try refine xsu ?_)
   refine gcP (fun hcc=>zbu (w.troops.getD k default).id (zho w k+1) (w.next-1)) ?_
   iterate 2(try simp(etaStruct := .none)only[push_cast,zab,seval,beq_self_eq_true,zaa _ _ _ hlt,za2];try refine xsu ?_)
   refine gcP (fun hcc=>zbu (w.troops.getD k default).owner 0 ((w.bases.length:Int)-1)) ?_
   iterate 2(try simp(etaStruct := .none)only[push_cast,zab,seval,beq_self_eq_true,zaa _ _ _ hlt,za2];try refine xsu ?_)
   refine gcP (fun hcc=>zk5 w.f (w.troops.getD k default).c hf l1) ?_
   iterate 2(try simp(etaStruct := .none)only[push_cast,zab,seval,beq_self_eq_true,zaa _ _ _ hlt,za2];try refine xsu ?_)
   refine gcP (fun hcc=>zbu (w.troops.getD k default).life 1 (zbl (w.troops.getD k default).kind).life) ?_
   iterate 2(try simp(etaStruct := .none)only[push_cast,zab,seval,beq_self_eq_true,zaa _ _ _ hlt,za2];try refine xsu ?_)
   refine gcP (fun hcc=>zbu (w.troops.getD k default).load 0 (if (w.troops.getD k default).kind=1 then 5 else 0)) ?_
   iterate 2(try simp(etaStruct := .none)only[push_cast,zab,seval,beq_self_eq_true,zaa _ _ _ hlt,za2];try refine xsu ?_)
   refine cI (fun h3 => ?_) fun h3 => ?_
   ·have e0:zfb w k=false:=by
     rw[zp3 hn]
     rcases h3 with ((((h|h)|h)|h)|h)|h
     ·rw[ygy h];rfl
     ·rw[h];simp
     ·rw[h];simp
     ·rw[h];simp
     ·rw[h];simp
     ·cases hkk:zaj (w.troops.getD k default).kind 1 2 with
      | false=>rfl
      | true=>rw[zro hkk,h];simp
    have e:zdj w=false:=by unfold zdj;rw[zkt hlt e0];simp
    iterate 2(try simp(etaStruct := .none)only[push_cast,zab,seval,beq_self_eq_true,zaa _ _ _ hlt,za2];try refine xsu ?_)
    (first|(refine zaz rfl (Wk.of ?_);(try simp(etaStruct := .none)only[push_cast,zab,seval]);first|done|(simp[e, *];done)|(simp_all[e];done))|(refine zaz rfl ?_;(try simp(etaStruct := .none)only[push_cast,zab,seval]);(try simp[e, *]);(try exact wkc)))
   ·have hkk:=ygx h3.1.1.1.1.1
    have e0:zfb w k = !zi3 w k (w.troops.getD k default).c:=by
     rw[zp3 hn,hkk,zro hkk,h3.1.1.1.1.2,h3.1.1.1.2,h3.1.1.2,h3.1.2,h3.2];rfl
    have hg:zdg [(w.troops.getD k default).c.x,(w.troops.getD k default).c.y] es=if zi3 w k (w.troops.getD k default).c=true then 1 else 0:=hm (w.troops.getD k default).c
    have hg2:0≤zdg [(w.troops.getD k default).c.x,(w.troops.getD k default).c.y] es∧zdg [(w.troops.getD k default).c.x,(w.troops.getD k default).c.y] es≤1:=by rw[hg];split<;>omega
    obtain⟨es',hes'⟩:∃es',es'=zgv [(w.troops.getD k default).c.x,(w.troops.getD k default).c.y] (zdg [(w.troops.getD k default).c.x,(w.troops.getD k default).c.y] es+1) es:=⟨_,rfl⟩
    have hp1:=zv3 [(w.troops.getD k default).c.x,(w.troops.getD k default).c.y] (zdg [(w.troops.getD k default).c.x,(w.troops.getD k default).c.y] es+1) es
    have hp2:=fun c=>zci [(w.troops.getD k default).c.x,(w.troops.getD k default).c.y] (zsy c) (zdg [(w.troops.getD k default).c.x,(w.troops.getD k default).c.y] es+1) es
    rw[←hes']at hp1 hp2
    have hmp:=zlq [(w.troops.getD k default).c.x,(w.troops.getD k default).c.y] es
    iterate 2(try simp(etaStruct := .none)only[push_cast,zab,seval,beq_self_eq_true,zaa _ _ _ hlt,za2,zam,←hes',hp1];try refine xsu ?_)
    (try(refine⟨by kernel_rfl,?_⟩))
    iterate 2(try simp(etaStruct := .none)only[push_cast,zab,seval,beq_self_eq_true,zaa _ _ _ hlt,za2,zam,←hes',hp1];try refine xsu ?_)
    refine cI (fun h4 => ?_) fun h4 => ?_
    ·have hs:zi3 w k (w.troops.getD k default).c=true:=by
      cases hs:zi3 w k (w.troops.getD k default).c with
      | true=>rfl
      | false=>rw[hg,hs]at h4;simp at h4
     have e:zdj w=false:=by unfold zdj;rw[zkt hlt (by rw[e0,hs];rfl)];simp
     iterate 2(try simp(etaStruct := .none)only[push_cast,zab,seval,beq_self_eq_true,zaa _ _ _ hlt,za2,zam,←hes',hp1];try refine xsu ?_)
     (first|(refine zaz rfl (Wk.of ?_);(try simp(etaStruct := .none)only[push_cast,zab,seval]);first|done|(simp[e, *];done)|(simp_all[e];done))|(refine zaz rfl ?_;(try simp(etaStruct := .none)only[push_cast,zab,seval]);(try simp[e, *]);(try exact wkc)))
    ·have hs:zi3 w k (w.troops.getD k default).c=false:=by
      cases hs:zi3 w k (w.troops.getD k default).c with
      | false=>rfl
      | true=>rw[hg,hs]at h4;simp at h4
     iterate 2(try simp(etaStruct := .none)only[push_cast,zab,seval,beq_self_eq_true,zaa _ _ _ hlt,za2,zam,←hes',hp1];try refine xsu ?_)
     refine⟨(k+1,es'),⟨by simp only;omega,by simp only;rw[zge,hn,e0,hs];rfl,fun c=>by
 simp only
 rw[hp2 c,zxy,hg,hs]
 by_cases hc:(w.troops.getD k default).c=c
 ·rw[if_pos (show zsy c = [(w.troops.getD k default).c.x,(w.troops.getD k default).c.y]from tkeyC_inj.2 hc.symm),decide_eq_true hc];simp
 ·rw [if_neg (show ¬ zsy c = [(w.troops.getD k default).c.x, (w.troops.getD k default).c.y] from fun h => hc (tkeyC_inj.1 h).symm), decide_eq_false hc, hm c, Bool.or_false]⟩, by simp only; omega, To.mk [0, 1] rfl rfl (by decide) ?_ ?_⟩
     ·(iterate 2((try simp(etaStruct := .none)only[push_cast,zab,seval,beq_self_eq_true,zaa _ _ _ hlt,za2,zam,←hes',hp1]);(try(refine xsu ?_;try exact xtI))))
     ·(try(refine xz1 yci ?_;try exact xtI))
 ·(try replace h1:=xhh h1)
  obtain rfl:k=w.troops.length:=by omega
  have e:zdj w=true:=by unfold zdj;rw[hn1,hn2,hn];rfl
  iterate 2(try simp(etaStruct := .none)only[push_cast,zab,seval,beq_self_eq_true];try refine xsu ?_)
  refine caP (zbu w.next 1 1000000) ?_
  iterate 2(try simp(etaStruct := .none)only[push_cast,zab,seval,beq_self_eq_true];try refine xsu ?_)
  refine gcP (fun hcc=>zbu w.now 0 1000000) ?_
  iterate 2(try simp(etaStruct := .none)only[push_cast,zab,seval,beq_self_eq_true];try refine xsu ?_)
  exact zbr rfl trivial (Wk.of (by rw[e,hn1,hn2];rfl))
theorem zsu (w:Wld) (hl:zf7 w) (hf:zb7 w.f=0) (hb:(zaj w.next 1 1000000&&zaj w.now 0 1000000)=false):Spec Tryz.prog 60 [zdi w] [] (B (zdj w)) []:=by
 obtain⟨l1,l2,l3,l4,l5⟩:=hl
 have e:zdj w=false:=by unfold zdj;rw[hb];rfl
 refine spB Tryz.func60 96 [.tmp 2] Tryz.results60 ?_
 iterate 2(try simp(etaStruct := .none)only[push_cast,zab,seval,beq_self_eq_true];try refine xsu ?_)
 refine za3 (fun x:Nat × Int × List (List Int × Int)=>⟨[(14,I .i64 x.1),(13,I .i64 w.troops.length),(12,.c (.sl 7 (w.troops.map za2))),(4,.map 1),(3,I .i64 x.2.1),(1,.ptr 0 0 0)],[(0,.blk 28 (znz w)),(1,.mp true 2 x.2.2)],2⟩) (fun x:Nat × Int × List (List Int × Int)=>x.1≤w.troops.length) (fun x:Nat × Int × List (List Int × Int)=>w.troops.length-x.1) ((0,0,[])) (Nat.zero_le _) (To.mk [0,1] rfl rfl (by decide) ?_ ?_) ?_
 ·simp(etaStruct := .none)only[push_cast,zab,seval]
 ·simp(etaStruct := .none)only[push_cast,zab,seval]
 rintro⟨k,last,es⟩ hk
 simp only at hk
 iterate 2(try simp(etaStruct := .none)only[push_cast,zab,seval,beq_self_eq_true];try refine xsu ?_)
 refine cI (fun h1 => ?_) fun h1 => ?_
 ·have hlt:k<w.troops.length:=by omega
  iterate 2(try simp(etaStruct := .none)only[push_cast,zab,seval,beq_self_eq_true,zaa _ _ _ hlt,za2];try refine xsu ?_)
  refine caP (zhh (w.troops.getD k default).kind) ?_
  iterate 2(try simp(etaStruct := .none)only[push_cast,zab,seval,beq_self_eq_true,zaa _ _ _ hlt,za2];try refine xsu ?_)
  refine znq (fun m:Int=>⟨[(14,I .i64 k),(13,I .i64 w.troops.length),(12,.c (.sl 7 (w.troops.map za2))),(9,I .i64 m),(8,I .i64 (zgb (w.troops.getD k default).kind)),(7,.ptr 3 0 0),(6,.ptr 2 0 0),(4,.map 1),(3,I .i64 last),(1,.ptr 0 0 0)],[(0,.blk 28 (znz w)),(1,.mp true 2 es),(2,.blk 108 (ylq (w.troops.getD k default))),(3,.blk 222 [I .i64 (zbl (w.troops.getD k default).kind).life,I .i64 (zbl (w.troops.getD k default).kind).blow,I .i64 (zbl (w.troops.getD k default).kind).load,I .i64 (zbl (w.troops.getD k default).kind).price])],4⟩) (fun m:Int=>Tr) (fun h2 => ?_) (fun h2 => ?_) ?_
  ·(try replace h2:=xhh h2)
   iterate 2(try simp(etaStruct := .none)only[push_cast,zab,seval,beq_self_eq_true,zaa _ _ _ hlt,za2];try refine xsu ?_)
   refine⟨5,trI,To.mk [0,1,2,3] rfl rfl (by decide) ?_ ?_⟩
   ·(iterate 2((try simp(etaStruct := .none)only[push_cast,zab,seval,beq_self_eq_true,zaa _ _ _ hlt,za2]);(try(refine xsu ?_;try exact xtI))))
   ·(iterate 2((try simp(etaStruct := .none)only[push_cast,zab,seval,beq_self_eq_true,zaa _ _ _ hlt,za2]);(try(refine xsu ?_;try exact xtI))))
  ·(try replace h2:=xhh h2)
   iterate 2(try simp(etaStruct := .none)only[push_cast,zab,seval,beq_self_eq_true,zaa _ _ _ hlt,za2];try refine xsu ?_)
   refine⟨0,trI,To.mk [0,1,2,3] rfl rfl (by decide) ?_ ?_⟩
   ·(iterate 2((try simp(etaStruct := .none)only[push_cast,zab,seval,beq_self_eq_true,zaa _ _ _ hlt,za2]);(try(refine xsu ?_;try exact xtI))))
   ·(iterate 2((try simp(etaStruct := .none)only[push_cast,zab,seval,beq_self_eq_true,zaa _ _ _ hlt,za2]);(try(refine xsu ?_;try exact xtI))))
  ·rintro m _
   iterate 2(try simp(etaStruct := .none)only[push_cast,zab,seval,beq_self_eq_true,zaa _ _ _ hlt,za2];try refine xsu ?_)
   refine gcP (fun hcc=>zbu (w.troops.getD k default).id _ _) ?_
   iterate 2(try simp(etaStruct := .none)only[push_cast,zab,seval,beq_self_eq_true,zaa _ _ _ hlt,za2];try refine xsu ?_)
   refine gcP (fun hcc=>zbu (w.troops.getD k default).owner 0 ((w.bases.length:Int)-1)) ?_
   iterate 2(try simp(etaStruct := .none)only[push_cast,zab,seval,beq_self_eq_true,zaa _ _ _ hlt,za2];try refine xsu ?_)
   refine gcP (fun hcc=>zk5 w.f (w.troops.getD k default).c hf l1) ?_
   iterate 2(try simp(etaStruct := .none)only[push_cast,zab,seval,beq_self_eq_true,zaa _ _ _ hlt,za2];try refine xsu ?_)
   refine gcP (fun hcc=>zbu (w.troops.getD k default).life 1 (zbl (w.troops.getD k default).kind).life) ?_
   iterate 2(try simp(etaStruct := .none)only[push_cast,zab,seval,beq_self_eq_true,zaa _ _ _ hlt,za2];try refine xsu ?_)
   refine gcP (fun hcc=>zbu (w.troops.getD k default).load 0 m) ?_
   iterate 2(try simp(etaStruct := .none)only[push_cast,zab,seval,beq_self_eq_true,zaa _ _ _ hlt,za2];try refine xsu ?_)
   refine cI (fun h3 => ?_) fun h3 => ?_
   ·iterate 2(try simp(etaStruct := .none)only[push_cast,zab,seval,beq_self_eq_true,zaa _ _ _ hlt,za2];try refine xsu ?_)
    (first|(refine zaz rfl (Wk.of ?_);(try simp(etaStruct := .none)only[push_cast,zab,seval]);first|done|(simp[e, *];done)|(simp_all[e];done))|(refine zaz rfl ?_;(try simp(etaStruct := .none)only[push_cast,zab,seval]);(try simp[e, *]);(try exact wkc)))
   ·have hmp:=zlq [(w.troops.getD k default).c.x,(w.troops.getD k default).c.y] es
    iterate 2(try simp(etaStruct := .none)only[push_cast,zab,seval,beq_self_eq_true,zaa _ _ _ hlt,za2,zam];try refine xsu ?_)
    (try(refine⟨by kernel_rfl,?_⟩))
    iterate 2(try simp(etaStruct := .none)only[push_cast,zab,seval,beq_self_eq_true,zaa _ _ _ hlt,za2,zam];try refine xsu ?_)
    refine cI (fun h4 => ?_) fun h4 => ?_
    ·iterate 2(try simp(etaStruct := .none)only[push_cast,zab,seval,beq_self_eq_true,zaa _ _ _ hlt,za2,zam];try refine xsu ?_)
     (first|(refine zaz rfl (Wk.of ?_);(try simp(etaStruct := .none)only[push_cast,zab,seval]);first|done|(simp[e, *];done)|(simp_all[e];done))|(refine zaz rfl ?_;(try simp(etaStruct := .none)only[push_cast,zab,seval]);(try simp[e, *]);(try exact wkc)))
    ·iterate 2(try simp(etaStruct := .none)only[push_cast,zab,seval,beq_self_eq_true,zaa _ _ _ hlt,za2,zam];try refine xsu ?_)
     refine⟨(k+1,(w.troops.getD k default).id,zgv [(w.troops.getD k default).c.x,(w.troops.getD k default).c.y] (IntKind.i64.wrap (zdg [(w.troops.getD k default).c.x,(w.troops.getD k default).c.y] es+1)) es),by simp only;omega,by simp only;omega,To.mk [0,1] rfl rfl (by decide) ?_ ?_⟩
     ·(iterate 2((try simp(etaStruct := .none)only[push_cast,zab,seval,beq_self_eq_true,zaa _ _ _ hlt,za2,zam]);(try(refine xsu ?_;try exact xtI))))
     ·(iterate 2((try simp(etaStruct := .none)only[push_cast,zab,seval,beq_self_eq_true,zaa _ _ _ hlt,za2,zam]);(try(refine xsu ?_;try exact xtI))))
 ·iterate 2(try simp(etaStruct := .none)only[push_cast,zab,seval,beq_self_eq_true];try refine xsu ?_)
  refine caP (zbu w.next 1 1000000) ?_
  iterate 2(try simp(etaStruct := .none)only[push_cast,zab,seval,beq_self_eq_true];try refine xsu ?_)
  refine gcP (fun hcc=>zbu w.now 0 1000000) ?_
  iterate 2(try simp(etaStruct := .none)only[push_cast,zab,seval,beq_self_eq_true];try refine xsu ?_)
  exact zbr rfl trivial (Wk.of (by rw[e,hb];rfl))
theorem zsv (w:Wld) (hl:zf7 w) (hf:zb7 w.f=0):Spec Tryz.prog 60 [zdi w] [] (B (zdj w)) []:=by
 cases hb:(zaj w.next 1 1000000&&zaj w.now 0 1000000)with
 | false=>exact zsu w hl hf hb
 | true=>rw[Bool.and_eq_true]at hb;exact zz3 w hl hf hb.1 hb.2
theorem zeq (w:Wld) (hl:zf7 w):Spec Tryz.prog 17 [zdi w] [] (I .i64 (zaw w)) []:=by
 refine spB Tryz.func17 33 [.tmp 2] Tryz.results17 ?_
 try refine xst ?_
 refine caP (zwy w.f hl.1) ?_
 try refine xst ?_
 refine cI (fun h1 => ?_) fun h1 => ?_
 ·have e:zaw w=zb7 w.f:=by unfold zaw;rw[if_pos (by simpa using h1)]
  try refine xst ?_
  (first|(refine zaz rfl (Wk.of ?_);(try simp(etaStruct := .none)only[push_cast,zab,seval]);first|done|(simp[e, *];done)|(simp_all[e];done))|(refine zaz rfl ?_;(try simp(etaStruct := .none)only[push_cast,zab,seval]);(try simp[e, *]);(try exact wkc)))
 ·have hf:zb7 w.f=0:=by simpa using h1
  try refine xst ?_
  refine cI (fun h2 => ?_) fun h2 => ?_
  ·have e:zaw w=2:=by unfold zaw;rw[if_neg (by simp[hf]),if_pos (by omega)]
   try refine xst ?_
   (first|(refine zaz rfl (Wk.of ?_);(try simp(etaStruct := .none)only[push_cast,zab,seval]);first|done|(simp[e, *];done)|(simp_all[e];done))|(refine zaz rfl ?_;(try simp(etaStruct := .none)only[push_cast,zab,seval]);(try simp[e, *]);(try exact wkc)))
  ·have hb:¬(8<w.bases.length∨100<w.troops.length):=by omega
   try refine xst ?_
   refine caP (zxq w hl hf) ?_
   try refine xst ?_
   refine gcP (fun hcc=>z48 w hl) ?_
   try refine xst ?_
   refine gcP (fun hcc=>zsv w hl hf) ?_
   try refine xst ?_
   refine cI (fun h3 => ?_) fun h3 => ?_
   ·have e:zaw w=4:=by
     unfold zaw;rw[if_neg (by simp[hf]),if_neg hb,if_neg]
     rw[←ptm]
     rcases h3 with (h|h)|h<;>rw[h]<;>simp
    try refine xst ?_
    (first|(refine zaz rfl (Wk.of ?_);(try simp(etaStruct := .none)only[push_cast,zab,seval]);first|done|(simp[e, *];done)|(simp_all[e];done))|(refine zaz rfl ?_;(try simp(etaStruct := .none)only[push_cast,zab,seval]);(try simp[e, *]);(try exact wkc)))
   ·have e:zaw w=0:=by
     unfold zaw;rw[if_neg (by simp[hf]),if_neg hb,if_pos]
     rw[←ptm,h3.1.1,h3.1.2,h3.2];rfl
    try refine xst ?_
    (first|(refine zaz rfl (Wk.of ?_);(try simp(etaStruct := .none)only[push_cast,zab,seval]);first|done|(simp[e, *];done)|(simp_all[e];done))|(refine zaz rfl ?_;(try simp(etaStruct := .none)only[push_cast,zab,seval]);(try simp[e, *]);(try exact wkc)))
theorem zdt {w:Wld} (h:zaw w=0):zb7 w.f=0∧w.bases.length≤8∧w.troops.length≤100∧zjt w=true∧zh1 w=true:=by
 unfold zaw at h
 split at h
 ·rename_i h1;exact absurd h h1
 ·rename_i h1
  split at h
  ·simp at h
  ·rename_i h2
   split at h
   ·rename_i h3
    rw[Bool.and_eq_true]at h3
    exact⟨Decidable.not_not.1 h1,by omega,by omega,h3.1,h3.2⟩
   ·simp at h
theorem zkw {w:Wld} (h:zjt w=true):w.stocks.length=w.bases.length∧w.mines.length=w.f.p.length∧(1≤w.next∧w.next≤1000000)∧0≤w.now∧w.now≤1000000:=by
 unfold zjt at h
 simp only[Bool.and_eq_true,decide_eq_true_eq,within_iff]at h
 exact⟨h.1.1.1,h.1.1.2,h.1.2,h.2⟩
structure TrpOk (w : Wld) (t : Trp) : Prop where
 kind:t.kind=1∨t.kind=2
 id:1≤t.id∧t.id≤w.next-1
 owner:0≤t.owner∧t.owner≤(w.bases.length:Int)-1
 at_:zce w.f t.c=true
 x:0≤t.c.x∧t.c.x<w.f.w
 y:0≤t.c.y∧t.c.y<w.f.h
 life:1≤t.life∧t.life≤(zbl t.kind).life
 load:0≤t.load∧t.load≤5*(2-t.kind)
theorem ground_iff {f:Fld} {c:Cel} : zce f c=true↔inF f c=true∧zao f c≠1:=by unfold zce;simp
theorem zfq {w:Wld} (h:zaw w=0) {k:Nat} (hk:k<w.troops.length):TrpOk w (w.troops.getD k default)∧z85 w k=true:=by
 obtain⟨_,_,_,_,h5⟩:=zdt h
 unfold zh1 at h5
 simp only[Bool.and_eq_true]at h5
 have:=(zbk _ _).1 h5.2 k hk
 unfold zfb yee at this
 simp only[Bool.and_eq_true,within_iff]at this
 obtain⟨a,⟨⟨⟨⟨b,c⟩,d⟩,e⟩,f⟩,g⟩:=this
 have hi:=inF_iff.1 (ground_iff.1 d).1
 exact⟨⟨by omega,b,c,d,hi.1,hi.2,e,f⟩,g⟩
theorem zp2 {w:Wld} (h:zaw w=0) {t:Trp} (ht:t∈w.troops):TrpOk w t:=by
 obtain⟨i,hi,rfl⟩:=List.getElem_of_mem ht
 have:=(zfq h hi).1
 rwa [zag _ _ hi]at this
theorem zz4 (F:FuncId) (a b:List AV) (l:List Trp) (p:Trp→Bool) (hl:l.length≤9223372036854775807) (hp:∀n∈l,Spec Tryz.prog F (a ++ [yed n]++b) [] (B (p n)) []) (ha:∀h,cvL [] h a=a) (hb:∀h,cvL [] h b=b) :
 Spec Tryz.prog 86 [.c (.sl 7 (l.map za2)),.clo (.func F) a b] [] (I .i64 (zkm p l)) []:=by
 refine spB Tryz.func86 19 [.tmp 4] Tryz.results86 ?_
 simp(etaStruct := .none)only[push_cast,zab,seval]
 refine za3 (fun k:Nat=>⟨[(8,I .i64 k),(7,I .i64 l.length),(0,.c (.sl 7 (l.map za2))),(1,.clo (.func F) a b)],[],0⟩) (fun k=>k≤l.length∧∀j (hj:j<l.length),j<k→p l[j]=false) (fun k=>l.length-k) 0 ⟨Nat.zero_le _,fun j _ h=>by omega⟩ (To.mk [] rfl rfl List.nodup_nil trivial ?_) ?_
 ·simp(etaStruct := .none)only[push_cast,zab,seval,ha,hb]
 ·rintro k ⟨hk,hn⟩
  simp(etaStruct := .none)only[push_cast,zab,seval]
  refine za1 (fun h => ?_) (fun h => ?_)
  ·have hlt:k<l.length:=by simpa using h
   simp(etaStruct := .none)only[push_cast,zab,seval,zcs _ _ _ hlt,za2]
   repeat with_reducible refine obA ?_
   refine zem (hp _ (List.getElem_mem hlt)) (by simp only[zeh,ha,hb,cvL,cv];exact WkL.refl _) ?_
   simp(etaStruct := .none)only[push_cast,zab,seval]
   refine za1 (fun h => ?_) (fun h => ?_)
   ·simp(etaStruct := .none)only[push_cast,zab,seval]
    exact zbr rfl trivial (Wk.of (by rw[zey p l k hlt h hn];rfl))
   ·simp(etaStruct := .none)only[push_cast,zab,seval]
    refine⟨k+1,⟨by omega,fun j hj hjk => ?_⟩,by omega,To.mk [] rfl rfl List.nodup_nil trivial ?_⟩
    ·by_cases e:j=k
     ·subst e;exact h
     ·exact hn j hj (by omega)
    ·simp(etaStruct := .none)only[push_cast,zab,seval,ha,hb]
     simp(disch:=omega)only[zaq,zbg,tdv,tmd]
  ·have hge:k=l.length:=by simp at h;omega
   subst hge
   simp(etaStruct := .none)only[push_cast,zab,seval]
   exact zbr rfl trivial (Wk.of (by rw[zdy p l (fun j hj=>hn j hj hj)];rfl))
theorem zt7 {α : Type} [Inhabited α] (p : α → Bool) (l:List α) (k:Nat) (h:k<l.length):(l.take (k+1)).filter p=if p (l.getD k default)then (l.take k).filter p ++ [l.getD k default]else (l.take k).filter p:=by
 rw[zas l k h,List.filter_append,List.filter_cons,List.filter_nil]
 split<;>simp
structure Blw where
 by_:Int
 at_:Int
 deriving DecidableEq, Inhabited
def zfa (b:Blw):List PV := [pI b.by_,pI b.at_]
theorem ylx (b:Blw):zfa b = [pI b.by_,pI b.at_]:=rfl
structure Gop where
 id:Int
 to:Cel
 deriving DecidableEq, Inhabited
def ze7 (g:Gop):List PV := [pI g.id,pI g.to.x,pI g.to.y]
theorem znk (g:Gop):ze7 g = [pI g.id,pI g.to.x,pI g.to.y]:=rfl
structure Ded where
 kind:Int
 who:Int
 c:Cel
 what:Int
 deriving DecidableEq, Inhabited
def zmm (d:Ded):List PV := [pI d.kind,pI d.who,pI d.c.x,pI d.c.y,pI d.what]
theorem yhi (d:Ded):zmm d = [pI d.kind,pI d.who,pI d.c.x,pI d.c.y,pI d.what]:=rfl
def zdr (w:Wld) (i:Int):Option Trp:=w.troops.find? fun t=>decide (t.id=i)
def z86:Trp:=⟨0,0,0,⟨0,0⟩,0,0⟩
theorem z7n {α : Type} [Inhabited α] (p : α → Bool) (l:List α) (k:Nat) (h:k<l.length) (hp:p (l.getD k default)=true) (hn:∀j,j<k→p (l.getD j default)=false):l.find? p=some (l.getD k default):=by
 induction l generalizing k with
 | nil=>simp at h
 | cons a r ih =>
  cases k with
  | zero=>simp only[List.getD_cons_zero]at hp ⊢;rw[List.find?_cons,hp]
  | succ k =>
   have h0:=hn 0 (by omega)
   simp only[List.getD_cons_zero]at h0
   rw[List.find?_cons,h0]
   simp only[List.getD_cons_succ]at hp ⊢
   exact ih k (by simpa using h) hp (fun j hj=>by have:=hn (j+1) (by omega);simpa using this)
theorem z3l {α : Type} [Inhabited α] (p : α → Bool) (l:List α) (hn:∀j,j<l.length→p (l.getD j default)=false):l.find? p=none:=by
 rw[List.find?_eq_none]
 intro x hx
 obtain⟨i,hi,rfl⟩:=List.getElem_of_mem hx
 have:=hn i hi
 rw[zag _ _ hi]at this
 simp[this]
def zd3 (o:Ord) (w:Wld):Bool:=if o.kind=5 then decide (o.by_<w.bases.length)else match zdr w o.who with|some t=>decide (t.owner=o.by_)|none=>false
def z4w (o:Ord):List Blw:=if o.kind=1 then [⟨o.who,o.what⟩]else []
def z4v (o:Ord):List Gop:=if o.kind=2 then [⟨o.who,o.c⟩]else []
def z74 (o:Ord):Ded:=⟨o.kind-2,if o.kind=5 then o.by_ else o.who,o.c,o.what⟩
def zxl (o:Ord):List Ded:=if 2<o.kind then [z74 o]else []
def zc8 (l:List Ord) (w:Wld):List Blw:=(l.filter fun o=>zd3 o w).flatMap z4w
def zfi (l:List Ord) (w:Wld):List Gop:=(l.filter fun o=>zd3 o w).flatMap z4v
def zcu (l:List Ord) (w:Wld):List Ded:=(l.filter fun o=>zd3 o w).flatMap zxl
theorem zmb {α : Type} (p:Ord→Bool) (f:Ord→List α) (l:List Ord) (k:Nat) (h:k<l.length):((l.take (k+1)).filter p).flatMap f=((l.take k).filter p).flatMap f++(if p (l.getD k default)then f (l.getD k default)else []):=by
 rw[zt7 p l k h]
 split<;>simp
theorem zfz {α : Type} (p:Ord→Bool) (f:Ord→List α) (hf:∀o,(f o).length≤1):∀l:List Ord,((l.filter p).flatMap f).length≤l.length
 | []=>by simp
 | a::r=>by
  have:=zfz p f hf r
  have h1:=hf a
  rw[List.filter_cons]
  split
  ·rw[List.flatMap_cons,List.length_append,List.length_cons];omega
  ·rw[List.length_cons];omega
theorem zxm (o:Ord):(z4w o).length≤1:=by unfold z4w;split<;>simp
theorem zxj (o:Ord):(z4v o).length≤1:=by unfold z4v;split<;>simp
theorem zxk (o:Ord):(zxl o).length≤1:=by unfold zxl;split<;>simp
end Go.Proofs.YtmjbgbmegbkmhaaGreat
namespace Go.Proofs.YtmjbgbmegbkmhaaGreat
set_option linter.all false
open Go.RowKit
set_option maxRecDepth 100000
set_option maxHeartbeats 400000
theorem zk1 (a b:Trp):(decide (a.id=b.id)&&(decide (a.owner=b.owner)&&(decide (a.kind=b.kind)&&(decide (a.c.x=b.c.x)&&(decide (a.c.y=b.c.y)&&(decide (a.life=b.life)&&decide (a.load=b.load)))))))=decide (a=b):=by
 rw[Bool.eq_iff_iff];obtain⟨_,_,_,⟨_,_⟩,_,_⟩:=a;obtain⟨_,_,_,⟨_,_⟩,_,_⟩:=b;simp[and_assoc]
theorem ye5 (l m:List Trp) (hl:l.length≤9223372036854775807) (hm:m.length≤9223372036854775807):Spec Tryz.prog 53 [.c (.sl 7 (l.map za2)),.c (.sl 7 (m.map za2))] [] (B (decide (l=m))) []:=by
 refine spB Tryz.func53 26 [.tmp 4] Tryz.results53 ?_
 try refine xst ?_
 refine cI (fun h1 => ?_) fun h1 => ?_
 ·have e:l≠m:=by intro e;subst e;simp at h1
  try refine xst ?_
  exact zbr rfl trivial (Wk.of (by rw[decide_eq_false e];rfl))
 ·try refine xst ?_
  refine za3 (fun k:Nat=>⟨[(13,I .i64 k),(12,I .i64 l.length),(1,.c (.sl 7 (m.map za2))),(0,.c (.sl 7 (l.map za2)))],[],0⟩) (fun k:Nat=>k≤l.length∧∀j,j<k→l.getD j default=m.getD j default) (fun k:Nat=>l.length-k) (0) (⟨Nat.zero_le _,fun j h=>by omega⟩) (To.mk [] rfl rfl List.nodup_nil trivial ?_) ?_
  ·simp(etaStruct := .none)only[push_cast,zab,seval]
  rintro k ⟨hk,hn⟩
  try refine xst ?_
  refine cI (fun h2 => ?_) fun h2 => ?_
  ·have hlt:k<l.length:=by omega
   have hlt2:k<m.length:=by omega
   try refine xz4 (gd hlt) (gd hlt2) zbh zk1 ?_
   (try(refine⟨by kernel_rfl,?_⟩))
   try refine xz4 (gd hlt) (gd hlt2) zbh zk1 ?_
   refine cI (fun h3 => ?_) fun h3 => ?_
   ·have e:l≠m:=by intro e;subst e;simp at h3
    try refine xz4 (gd hlt) (gd hlt2) zbh zk1 ?_
    exact zbr rfl trivial (Wk.of (by rw[decide_eq_false e];rfl))
   ·try refine xz4 (gd hlt) (gd hlt2) zbh zk1 ?_
    refine⟨k+1,⟨by omega,fun j hj=>by rcases Nat.lt_or_ge j k with h|h;exact hn j h;rw[show j=k by omega];simpa using h3⟩,by omega,To.mk [] rfl rfl List.nodup_nil trivial ?_⟩
    ·(try(refine xz4 (gd hlt) (gd hlt2) zbh zk1 ?_;try exact xtI))
  ·have e:l=m:=by
    refine List.ext_getElem (by omega) fun i i1 i2 => ?_
    have:=hn i (by omega)
    rwa [zag _ _ i1,zag _ _ i2]at this
   try refine xst ?_
   exact zbr rfl trivial (Wk.of (by rw[decide_eq_true e];rfl))
theorem zs7 (a b:Fld) (ha:a.p.length≤9223372036854775807) (hb:b.p.length≤9223372036854775807):Spec Tryz.prog 50 [z3k a,z3k b] [] (B (decide (a=b))) []:=by
 have e:decide (a=b)=(decide (a.w=b.w)&&decide (a.h=b.h)&&decide (a.p=b.p)):=by
  rw[Bool.eq_iff_iff];obtain⟨_,_,_⟩:=a;obtain⟨_,_,_⟩:=b;simp[and_assoc]
 refine spB Tryz.func50 24 [.tmp 4] Tryz.results50 ?_
 try refine xst ?_
 refine gcP (fun hcc=>z2m a.p b.p ha hb) ?_
 try refine xst ?_
 (first|(refine zaz rfl (Wk.of ?_);(try simp(etaStruct := .none)only[push_cast,zab,seval]);first|done|(simp[e, *];done)|(simp_all[e];done))|(refine zaz rfl ?_;(try simp(etaStruct := .none)only[push_cast,zab,seval]);(try simp[e, *]);(try exact wkc)))
theorem zs6 (a b:Wld) (ha:zf7 a) (hb:zf7 b):Spec Tryz.prog 15 [zdi a,zdi b] [] (B (decide (a=b))) []:=by
 have e:decide (a=b)=(decide (a.f=b.f)&&decide (a.bases=b.bases)&&decide (a.stocks=b.stocks)&&decide (a.mines=b.mines)&&decide (a.troops=b.troops)&&decide (a.next=b.next)&&decide (a.now=b.now)):=by
  rw[Bool.eq_iff_iff];obtain⟨_,_,_,_,_,_,_⟩:=a;obtain⟨_,_,_,_,_,_,_⟩:=b;simp[and_assoc]
 obtain⟨a1,a2,a3,a4,a5⟩:=ha
 obtain⟨b1,b2,b3,b4,b5⟩:=hb
 refine spB Tryz.func15 52 [.tmp 4] Tryz.results15 ?_
 try refine xst ?_
 refine caP (zs7 a.f b.f a1 b1) ?_
 try refine xst ?_
 refine gcP (fun hcc=>yhm a.bases b.bases a2 b2) ?_
 try refine xst ?_
 refine gcP (fun hcc=>z2m a.stocks b.stocks a3 b3) ?_
 try refine xst ?_
 refine gcP (fun hcc=>z2m a.mines b.mines a4 b4) ?_
 try refine xst ?_
 refine gcP (fun hcc=>ye5 a.troops b.troops a5 b5) ?_
 try refine xst ?_
 (first|(refine zaz rfl (Wk.of ?_);(try simp(etaStruct := .none)only[push_cast,zab,seval]);first|done|(simp[e, *];done)|(simp_all[e];done))|(refine zaz rfl ?_;(try simp(etaStruct := .none)only[push_cast,zab,seval]);(try simp[e, *]);(try exact wkc)))
theorem zbv (l:List Int) (hl:l.length≤17592186044415):Spec Tryz.prog 41 [.c (.sl 1 (l.map zae))] [] (.own 0) [.row 3 1 (l.map zae)]:=by
 refine spB Tryz.func41 8 [.tmp 2] Tryz.results41 ?_
 try refine xst ?_
 intro b hb
 try refine xst ?_
 refine za1 (fun h => ?_) (fun h => ?_)
 ·try refine xst ?_
  have e:=hb h
  refine zoe (To.nil 2 3 1 rfl) (zbc [0] rfl rfl (by decide) ⟨?_,trivial⟩ trivial ?_)
  ·simp(etaStruct := .none)only[push_cast,zab,seval,e]
  ·simp(etaStruct := .none)only[push_cast,zab,seval]
 ·try refine xst ?_
  refine zbc [1] rfl rfl (by decide) ⟨?_,trivial⟩ trivial ?_
  ·simp(etaStruct := .none)only[push_cast,zab,seval]
  ·simp(etaStruct := .none)only[push_cast,zab,seval]
theorem zbn (l:List Int) (hl:l.length≤17592186044415):Spec Tryz.prog 41 [.c (.sl 1 (l.map zae))] [] (.c (.sl 1 (l.map zae))) []:=by
 refine spB Tryz.func41 8 [.tmp 2] Tryz.results41 ?_
 try refine xst ?_
 intro b hb
 try refine xst ?_
 refine za1 (fun h => ?_) (fun h => ?_)
 ·try refine xst ?_
  exact zbr rfl trivial (by rw[hb h];exact Wk.nil _)
 ·try refine xst ?_
  exact zbr rfl trivial (Wk.refl _)
theorem z36 (l:List Cel) (hl:l.length≤8796093022207):Spec Tryz.prog 42 [.c (.sl 2 (l.map zbb))] [] (.own 0) [.row 46 2 (l.map zbb)]:=by
 refine spB Tryz.func42 8 [.tmp 2] Tryz.results42 ?_
 try refine xst ?_
 intro b hb
 try refine xst ?_
 refine za1 (fun h => ?_) (fun h => ?_)
 ·try refine xst ?_
  have e:=hb h
  refine zoe (To.nil 2 46 2 rfl) (zbc [0] rfl rfl (by decide) ⟨?_,trivial⟩ trivial ?_)
  ·simp(etaStruct := .none)only[push_cast,zab,seval,e]
  ·simp(etaStruct := .none)only[push_cast,zab,seval]
 ·try refine xst ?_
  refine zbc [1] rfl rfl (by decide) ⟨?_,trivial⟩ trivial ?_
  ·simp(etaStruct := .none)only[push_cast,zab,seval]
  ·simp(etaStruct := .none)only[push_cast,zab,seval]
theorem zpl (l:List Cel) (hl:l.length≤8796093022207):Spec Tryz.prog 42 [.c (.sl 2 (l.map zbb))] [] (.c (.sl 2 (l.map zbb))) []:=by
 refine spB Tryz.func42 8 [.tmp 2] Tryz.results42 ?_
 try refine xst ?_
 intro b hb
 try refine xst ?_
 refine za1 (fun h => ?_) (fun h => ?_)
 ·try refine xst ?_
  exact zbr rfl trivial (by rw[hb h];exact Wk.nil _)
 ·try refine xst ?_
  exact zbr rfl trivial (Wk.refl _)
theorem zp1 (l:List Trp) (hl:l.length≤2513169434916):Spec Tryz.prog 44 [.c (.sl 7 (l.map za2))] [] (.own 0) [.row 108 7 (l.map za2)]:=by
 refine spB Tryz.func44 8 [.tmp 2] Tryz.results44 ?_
 try refine xst ?_
 intro b hb
 try refine xst ?_
 refine za1 (fun h => ?_) (fun h => ?_)
 ·try refine xst ?_
  have e:=hb h
  refine zoe (To.nil 2 108 7 rfl) (zbc [0] rfl rfl (by decide) ⟨?_,trivial⟩ trivial ?_)
  ·simp(etaStruct := .none)only[push_cast,zab,seval,e]
  ·simp(etaStruct := .none)only[push_cast,zab,seval]
 ·try refine xst ?_
  refine zbc [1] rfl rfl (by decide) ⟨?_,trivial⟩ trivial ?_
  ·simp(etaStruct := .none)only[push_cast,zab,seval]
  ·simp(etaStruct := .none)only[push_cast,zab,seval]
theorem zur (l:List Trp) (hl:l.length≤2513169434916):Spec Tryz.prog 44 [.c (.sl 7 (l.map za2))] [] (.c (.sl 7 (l.map za2))) []:=by
 refine spB Tryz.func44 8 [.tmp 2] Tryz.results44 ?_
 try refine xst ?_
 intro b hb
 try refine xst ?_
 refine za1 (fun h => ?_) (fun h => ?_)
 ·try refine xst ?_
  exact zbr rfl trivial (by rw[hb h];exact Wk.nil _)
 ·try refine xst ?_
  exact zbr rfl trivial (Wk.refl _)
end Go.Proofs.YtmjbgbmegbkmhaaGreat
namespace Go.Proofs.YtmjbgbmegbkmhaaGreat
set_option linter.all false
open Go.RowKit
set_option maxRecDepth 100000
set_option maxHeartbeats 2000000
theorem zrl (a b:Cel):(zlz a b).length=max (b.x-a.x).natAbs (b.y-a.y).natAbs+1:=by simp[zlz,zau]
theorem z6y (a:Cel) (sx sy:Int) (X Y k L m:Nat) (hL:L=max X Y) (hm:m=min X Y) (h0:0<L) :
 lpt a sx sy X Y (k+1)=⟨if Y≤X∨2*L≤lr L m k+2*m then (lpt a sx sy X Y k).x+sx else (lpt a sx sy X Y k).x,if X<Y∨2*L≤lr L m k+2*m then (lpt a sx sy X Y k).y+sy else (lpt a sx sy X Y k).y⟩ ∧
 (lr L m (k+1):Int)=if 2*L≤lr L m k+2*m then (lr L m k:Int)+2*m-2*L else lr L m k+2*m:=by
 by_cases h:Y≤X
 ·obtain rfl:L=X:=by omega
  obtain rfl:m=Y:=by omega
  have st:=zou L m k h0 h
  rw[z19 a sx sy L m k h h0,if_pos (show m≤L∨2*L≤lr L m k+2*m from Or.inl h)]
  by_cases hc:2*L≤lr L m k+2*m
  ·rw[if_pos hc,if_pos (show L<m∨2*L≤lr L m k+2*m from Or.inr hc),if_pos hc];exact⟨rfl,by have:=(st.1 hc).2;omega⟩
  ·rw[if_neg hc,if_neg (show ¬(L<m∨2*L≤lr L m k+2*m)by omega),if_neg hc];exact⟨rfl,by have:=(st.2 (by omega)).2;omega⟩
 ·obtain rfl:L=Y:=by omega
  obtain rfl:m=X:=by omega
  have st:=zou L m k h0 (by omega)
  rw[z18 a sx sy m L k (by omega),if_pos (show m<L∨2*L≤lr L m k+2*m from Or.inl (by omega))]
  by_cases hc:2*L≤lr L m k+2*m
  ·rw[if_pos hc,if_pos (show L≤m∨2*L≤lr L m k+2*m from Or.inr hc),if_pos hc];exact⟨rfl,by have:=(st.1 hc).2;omega⟩
  ·rw[if_neg hc,if_neg (show ¬(L≤m∨2*L≤lr L m k+2*m)by omega),if_neg hc];exact⟨rfl,by have:=(st.2 (by omega)).2;omega⟩
theorem z17 (a:Cel) (sx sy:Int) (X Y:Nat):zzo a sx sy X Y 0 = [a]:=by simp[zzo,zov]
theorem yds (a b:Cel) (ha:zep a=true) (hb:zep b=true):Spec Tryz.prog 157 [zhv a,zhv b] [] (.tup [.c (.sl 2 ((zlz a b).map zbb)),I .i64 0]) []:=by
 have hx:=zjb ha
 have hy:=zjb hb
 obtain⟨sx,hsx⟩:∃s,s=(b.x-a.x).sign:=⟨_,rfl⟩
 obtain⟨sy,hsy⟩:∃s,s=(b.y-a.y).sign:=⟨_,rfl⟩
 obtain⟨X,hX⟩:∃s,s=(b.x-a.x).natAbs:=⟨_,rfl⟩
 obtain⟨Y,hY⟩:∃s,s=(b.y-a.y).natAbs:=⟨_,rfl⟩
 have gx:=sg (b.x-a.x)
 have gy:=sg (b.y-a.y)
 rw[←hsx]at gx
 rw[←hsy]at gy
 have S1:=zu6 (b.x-a.x) (by omega) (by omega)
 have S2:=zu6 (b.y-a.y) (by omega) (by omega)
 have hX2:X≤2000:=by omega
 have hY2:Y≤2000:=by omega
 unfold zlz
 rw[←hsx,←hX]at S1 ⊢
 rw[←hsy,←hY]at S2 ⊢
 obtain⟨L,hL⟩:∃L,L=max X Y:=⟨_,rfl⟩
 obtain⟨m,hm⟩:∃m,m=min X Y:=⟨_,rfl⟩
 rw[←hL]
 have LR:=fun k h0=>yks L m k h0
 have NR:=fun k hk=>z6z a sx sy X Y k gx gy hX2 hY2 hk ha
 clear hsx hsy hX hY
 refine spB Tryz.func157 93 [.tmp 4,.tmp 5] Tryz.results157 ?_
 try refine xz1 zau ?_
 refine caP (zvx a (by omega) (by omega)) ?_
 try refine xz1 zau ?_
 refine gcP (fun hcc=>zvx b (by omega) (by omega)) ?_
 try refine xz1 zau ?_
 refine cI (fun h1 => ?_) fun h1 => ?_
 ·simp[ha,hb]at h1
 ·try refine xz1 zau ?_
  refine caP (S1) ?_
  try refine xz1 zau ?_
  refine caP (S2) ?_
  try refine xz1 zau ?_
  refine znq (fun _u:Unit=>⟨[(10,I .i64 L),(11,I .i64 m),(9,I .i64 Y),(8,I .i64 sy),(7,I .i64 X),(6,I .i64 sx),(2,.ptr 0 0 0)],[(0,.blk 46 [I .i64 a.x,I .i64 a.y])],1⟩) (fun _u:Unit=>Tr) (fun h2 => ?_) (fun h2 => ?_) ?_
  ·(try replace h2:=xhh h2)
   obtain rfl:L=Y:=by omega
   obtain rfl:m=X:=by omega
   try refine xz1 zau ?_
   refine⟨(),trI,To.mk [0] rfl rfl (by decide) ?_ ?_⟩
   ·(try(refine xz1 zau ?_;try exact xtI))
   ·(try(refine xz1 zau ?_;try exact xtI))
  ·(try replace h2:=xhh h2)
   obtain rfl:L=X:=by omega
   obtain rfl:m=Y:=by omega
   try refine xz1 zau ?_
   refine⟨(),trI,To.mk [0] rfl rfl (by decide) ?_ ?_⟩
   ·(try(refine xz1 zau ?_;try exact xtI))
   ·(try(refine xz1 zau ?_;try exact xtI))
  ·rintro _ _
   try refine xz1 zau ?_
   refine za3 (fun k:Nat=>⟨[(51,I .i64 k),(50,I .i64 L),(13,I .i64 ((lr L m k:Int)-L)),(12,.own 1),(11,I .i64 m),(10,I .i64 L),(9,I .i64 Y),(8,I .i64 sy),(7,I .i64 X),(6,I .i64 sx),(2,.ptr 0 0 0)],[(0,.blk 46 [I .i64 (lpt a sx sy X Y k).x,I .i64 (lpt a sx sy X Y k).y]),(1,.row 46 2 ((zzo a sx sy X Y k).map zbb))],2⟩) (fun k:Nat=>k≤L) (fun k:Nat=>L-k) (0) (Nat.zero_le _) (To.mk [0,1] rfl rfl (by decide) ?_ ?_) ?_
   ·simp(etaStruct := .none)only[push_cast,zab,seval,zov,z17,zbb]
   ·simp(etaStruct := .none)only[push_cast,zab,seval,zov,yb8,Int.sub_self]
   rintro k hk
   try refine xz1 zau ?_
   refine cI (fun h3 => ?_) fun h3 => ?_
   ·have hlt:k<L:=by omega
    obtain⟨ST,SR⟩:=z6y a sx sy X Y k L m hL hm (by omega)
    have hlr:=LR k (by omega)
    have hnr:=NR k (by omega)
    have hnr2:=NR (k+1) (by omega)
    try refine xz1 zau ?_
    refine znq (fun o:Bool=>⟨[(51,I .i64 k),(50,I .i64 L),(14,B o),(13,I .i64 ((lr L m (k+1):Int)-L)),(12,.own 1),(11,I .i64 m),(10,I .i64 L),(9,I .i64 Y),(8,I .i64 sy),(7,I .i64 X),(6,I .i64 sx),(2,.ptr 0 0 0)],[(0,.blk 46 [I .i64 (lpt a sx sy X Y k).x,I .i64 (lpt a sx sy X Y k).y]),(1,.row 46 2 ((zzo a sx sy X Y k).map zbb))],2⟩) (fun o:Bool=>(o=true↔2*L≤lr L m k+2*m)) (fun h4 => ?_) (fun h4 => ?_) ?_
    ·(try replace h4:=xhh h4)
     have e1:(lr L m k:Int)-L+2*m-2*L=(lr L m (k+1):Int)-L:=by rw[SR,if_pos (by omega)];omega
     have e2:decide ((L:Int)≤(lr L m k:Int)-L+2*m)=true:=by simp;omega
     try refine xz3 zau e1 e2 ?_
     refine⟨true,by simp;omega,To.mk [0,1] rfl rfl (by decide) ?_ ?_⟩
     ·(try(refine xz3 zau e1 e2 ?_;try exact xtI))
     ·(try(refine xz3 zau e1 e2 ?_;try exact xtI))
    ·(try replace h4:=xhh h4)
     have e1:(lr L m k:Int)-L+2*m=(lr L m (k+1):Int)-L:=by rw[SR,if_neg (by omega)];omega
     have e2:decide ((L:Int)≤(lr L m (k+1):Int)-L)=false:=by rw[←e1];simp;omega
     try refine xz3 zau e1 e2 ?_
     refine⟨false,by simp;omega,To.mk [0,1] rfl rfl (by decide) ?_ ?_⟩
     ·(try(refine xz3 zau e1 e2 ?_;try exact xtI))
     ·(try(refine xz3 zau e1 e2 ?_;try exact xtI))
    ·rintro o ho
     try refine xz1 zau ?_
     refine znq (fun _u:Unit=>⟨[(51,I .i64 k),(50,I .i64 L),(14,B o),(13,I .i64 ((lr L m (k+1):Int)-L)),(12,.own 1),(11,I .i64 m),(10,I .i64 L),(9,I .i64 Y),(8,I .i64 sy),(7,I .i64 X),(6,I .i64 sx),(2,.ptr 0 0 0)],[(0,.blk 46 [I .i64 (lpt a sx sy X Y (k+1)).x,I .i64 (lpt a sx sy X Y k).y]),(1,.row 46 2 ((zzo a sx sy X Y k).map zbb))],2⟩) (fun _u:Unit=>Tr) (fun h5 => ?_) (fun h5 => ?_) ?_
     ·(try replace h5:=xhh h5)
      rw[ho]at h5
      have e1:(lpt a sx sy X Y k).x+sx=(lpt a sx sy X Y (k+1)).x:=by rw[ST];simp only;rw[if_pos (by omega)]
      try refine xz2 zau e1 ?_
      refine⟨(),trI,To.mk [0,1] rfl rfl (by decide) ?_ ?_⟩
      ·(try(refine xz2 zau e1 ?_;try exact xtI))
      ·(try(refine xz2 zau e1 ?_;try exact xtI))
     ·(try replace h5:=xhh h5)
      rw[Bool.eq_false_iff,ne_eq,ho]at h5
      have e1:(lpt a sx sy X Y k).x=(lpt a sx sy X Y (k+1)).x:=by rw[ST];simp only;rw[if_neg (by omega)]
      try refine xz1 zau ?_
      refine⟨(),trI,To.mk [0,1] rfl rfl (by decide) ?_ ?_⟩
      ·simp(etaStruct := .none)only[push_cast,zab,seval]
       rw[←e1]
       simp(etaStruct := .none)only[push_cast,zab,seval]
      ·(try(refine xz1 zau ?_;try exact xtI))
     ·rintro _ _
      try refine xz1 zau ?_
      refine cI (fun h6 => ?_) fun h6 => ?_
      ·rw[ho]at h6
       have e1:(lpt a sx sy X Y k).y+sy=(lpt a sx sy X Y (k+1)).y:=by rw[ST];simp only;rw[if_pos (by omega)]
       try refine xz2 zau e1 ?_
       refine⟨k+1,by omega,by omega,To.mk [0,3] rfl rfl (by decide) ?_ ?_⟩
       ·(iterate 2((try simp(etaStruct := .none)only[push_cast,zab,seval,zrk,List.map_append,zbb]);(try(refine xsu ?_;try exact xtI))))
       ·(try(refine xz2 zau e1 ?_;try exact xtI))
      ·rw[Bool.eq_false_iff,ne_eq,ho]at h6
       have e1:(lpt a sx sy X Y k).y=(lpt a sx sy X Y (k+1)).y:=by rw[ST];simp only;rw[if_neg (by omega)]
       try refine xz1 zau ?_
       refine⟨k+1,by omega,by omega,To.mk [0,3] rfl rfl (by decide) ?_ ?_⟩
       ·iterate 2(try simp(etaStruct := .none)only[push_cast,zab,seval,zrk,List.map_append,zbb];try refine xsu ?_)
        rw[←e1]
        exact⟨Wk.refl _,rfl⟩
       ·(try(refine xz1 zau ?_;try exact xtI))
   ·obtain rfl:k=L:=by omega
    try refine xz1 zau ?_
    exact xrz rfl
end Go.Proofs.YtmjbgbmegbkmhaaGreat
namespace Go.Proofs.YtmjbgbmegbkmhaaGreat
set_option linter.all false
open Go.RowKit
theorem zum (d:Int) (q:Nat) (hq:q≤d.natAbs) (f:Int):min f (f+d)≤f+d.sign*q∧f+d.sign*q≤max f (f+d):=by
 rcases Int.lt_trichotomy d 0 with h|h|h
 ·rw[Int.sign_eq_neg_one_of_neg h];omega
 ·subst h;simp
 ·rw[Int.sign_eq_one_of_pos h];omega
theorem yb9 (a b:Cel) (k:Nat) (hk:k≤max (b.x-a.x).natAbs (b.y-a.y).natAbs) :
 (min a.x b.x≤(lpt a (b.x-a.x).sign (b.y-a.y).sign (b.x-a.x).natAbs (b.y-a.y).natAbs k).x∧(lpt a (b.x-a.x).sign (b.y-a.y).sign (b.x-a.x).natAbs (b.y-a.y).natAbs k).x≤max a.x b.x) ∧
 (min a.y b.y≤(lpt a (b.x-a.x).sign (b.y-a.y).sign (b.x-a.x).natAbs (b.y-a.y).natAbs k).y∧(lpt a (b.x-a.x).sign (b.y-a.y).sign (b.x-a.x).natAbs (b.y-a.y).natAbs k).y≤max a.y b.y):=by
 have ex:a.x+(b.x-a.x)=b.x:=by omega
 have ey:a.y+(b.y-a.y)=b.y:=by omega
 unfold lpt
 split
 ·rename_i h
  have hq:lq (b.x-a.x).natAbs (b.y-a.y).natAbs k≤(b.y-a.y).natAbs:=by
   rcases Nat.eq_zero_or_pos (b.x-a.x).natAbs with h0|h0
   ·have:k=0:=by omega
    subst this;rw[ztp];omega
   ·exact z6x _ _ _ h0 (by omega)
  have w1:=zum (b.x-a.x) k (by omega) a.x
  have w2:=zum (b.y-a.y) _ hq a.y
  rw[ex]at w1;rw[ey]at w2
  exact⟨w1,w2⟩
 ·rename_i h
  have hq:lq (b.y-a.y).natAbs (b.x-a.x).natAbs k≤(b.x-a.x).natAbs:=z6x _ _ _ (by omega) (by omega)
  have w1:=zum (b.y-a.y) k (by omega) a.y
  have w2:=zum (b.x-a.x) _ hq a.x
  rw[ey]at w1;rw[ex]at w2
  exact⟨w2,w1⟩
theorem z62 (a b:Cel) (k:Nat) (hk:k≤max (b.x-a.x).natAbs (b.y-a.y).natAbs):(zlz a b).getD k default=lpt a (b.x-a.x).sign (b.y-a.y).sign (b.x-a.x).natAbs (b.y-a.y).natAbs k:=by
 rw[zag _ _ (by rw[zrl];omega)]
 simp[zlz,zzo]
theorem zwf {f:Fld} {c:Cel} (h:zb7 f=0) (hc:inF f c=true):zep c=true:=by
 obtain⟨h1,h2,_,_⟩:=zbs h
 obtain⟨h3,h4⟩:=inF_iff.1 hc
 unfold zep;simp;omega
theorem ycd {f:Fld} {a b:Cel} (ha:inF f a=true) (hb:inF f b=true) (k:Nat) (hk:k≤max (b.x-a.x).natAbs (b.y-a.y).natAbs):inF f ((zlz a b).getD k default)=true:=by
 rw[z62 a b k hk]
 have:=yb9 a b k hk
 rw[inF_iff]at ha hb ⊢
 omega
theorem z61 {f:Fld} {a b:Cel} (h:zb7 f=0) (ha:inF f a=true) (hb:inF f b=true):(b.x-a.x).natAbs≤39∧(b.y-a.y).natAbs≤39:=by
 obtain⟨h1,h2,_,_⟩:=zbs h
 rw[inF_iff]at ha hb
 omega
def znt (p:Int):Bool:=decide (p % 3=0)
def zti (f:Fld) (a b:Cel):Bool:=(List.range (max (b.x-a.x).natAbs (b.y-a.y).natAbs-1)).all fun k=>znt (zao f ((zlz a b).getD (k+1) default))
theorem ybr {f:Fld} {a b:Cel} (h:∀k,0<k→k<max (b.x-a.x).natAbs (b.y-a.y).natAbs→znt (zao f ((zlz a b).getD k default))=true):zti f a b=true:=by
 unfold zti
 rw[List.all_eq_true]
 intro k hk
 exact h (k+1) (by omega) (by simp at hk;omega)
theorem ybs {f:Fld} {a b:Cel} {k:Nat} (h0:0<k) (h1:k<max (b.x-a.x).natAbs (b.y-a.y).natAbs) (h:znt (zao f ((zlz a b).getD k default))=false):zti f a b=false:=by
 unfold zti
 rw[List.all_eq_false]
 refine⟨k-1,by simp;omega,?_⟩
 rw[show k-1+1=k by omega,h];simp
def zjz (f:Fld) (a b:Cel):Bool:=zti f a b||zti f b a
theorem z57 {f:Fld} (h:zb7 f=0) {c:Cel} (hc:inF f c=true):0≤zao f c∧zao f c<4:=by
 obtain⟨_,_,_,h4⟩:=zbs h
 obtain⟨_,_,i3,i4,_⟩:=zby h hc
 have hl:(c.y*f.w+c.x).toNat<f.p.length:=by omega
 unfold zao
 rw[zag _ _ hl]
 exact h4 _ (List.getElem_mem hl)
end Go.Proofs.YtmjbgbmegbkmhaaGreat
namespace Go.Proofs.YtmjbgbmegbkmhaaGreat
set_option linter.all false
open Go.RowKit
set_option maxRecDepth 100000
set_option maxHeartbeats 2000000
theorem z92 (f:Fld) (a b:Cel) (hf:zb7 f=0) (ha:inF f a=true) (hb:inF f b=true):Spec Tryz.prog 130 [z3k f,zhv a,zhv b] [] (B (zti f a b)) []:=by
 have CS:=yds a b (zwf hf ha) (zwf hf hb)
 have LL:=zrl a b
 have LF:=z61 hf ha hb
 have LI:=fun k hk=>ycd ha hb k hk
 have LT := @ybr f a b
 have LN := @ybs f a b
 have PL:f.p.length≤1600:=(zby hf ha).2.2.2.2
 generalize zlz a b=l at CS LL LI LT LN
 obtain⟨L,hL⟩:∃L,L=max (b.x-a.x).natAbs (b.y-a.y).natAbs:=⟨_,rfl⟩
 rw[←hL]at LL LI LT LN
 have hLL:L≤39:=by omega
 clear hL
 refine spB Tryz.func130 45 [.tmp 6] Tryz.results130 ?_
 iterate 2(try simp(etaStruct := .none)only[push_cast,zab,seval,LL,Int.add_sub_cancel];try refine xsu ?_)
 refine caP (CS) ?_
 iterate 2(try simp(etaStruct := .none)only[push_cast,zab,seval,LL,Int.add_sub_cancel];try refine xsu ?_)
 refine cI (fun h1 => ?_) fun h1 => ?_
 ·have hl2:L≤1:=by omega
  have e:=LT (fun k h0 h1=>by omega)
  iterate 2(try simp(etaStruct := .none)only[push_cast,zab,seval,LL,Int.add_sub_cancel];try refine xsu ?_)
  (first|(refine zaz rfl (Wk.of ?_);(try simp(etaStruct := .none)only[push_cast,zab,seval]);first|done|(simp[e, *];done)|(simp_all[e];done))|(refine zaz rfl ?_;(try simp(etaStruct := .none)only[push_cast,zab,seval]);(try simp[e, *]);(try exact wkc)))
 ·have e3:((l.map zbb).take L).drop 1=((l.take L).drop 1).map zbb:=by rw[List.map_drop,List.map_take]
  have e4:((l.take L).drop 1).length=L-1:=by simp;omega
  have e5:∀k,k<L-1→((l.take L).drop 1).getD k default=l.getD (k+1) default:=by intro k hk;simp[List.getD_eq_getElem?_getD,List.getElem?_drop,List.getElem?_take,show k+1<L by omega,Nat.add_comm]
  iterate 2(try simp(etaStruct := .none)only[push_cast,zab,seval,LL,Int.add_sub_cancel,e3,e4];try refine xsu ?_)
  refine za3 (fun k:Nat=>⟨[(28,I .i64 k),(27,I .i64 (L-1:Nat)),(26,.c (.sl 2 (((l.take L).drop 1).map zbb))),(3,.ptr 0 0 0)],[(0,.blk 24 [I .i64 f.w,I .i64 f.h,.c (.sl 1 (f.p.map zae))])],1⟩) (fun k:Nat=>k≤L-1∧∀j,0<j→j≤k→znt (zao f (l.getD j default))=true) (fun k:Nat=>L-1-k) (0) (⟨Nat.zero_le _,fun j h h'=>by omega⟩) (To.mk [0] rfl rfl (by decide) ?_ ?_) ?_
  ·simp(etaStruct := .none)only[push_cast,zab,seval]
  ·simp(etaStruct := .none)only[push_cast,zab,seval]
  rintro k ⟨hk,hn⟩
  iterate 2(try simp(etaStruct := .none)only[push_cast,zab,seval,LL,Int.add_sub_cancel,e3,e4];try refine xsu ?_)
  refine cI (fun h2 => ?_) fun h2 => ?_
  ·have hlt:k<L-1:=by omega
   have hlt2:k<((l.take L).drop 1).length:=by omega
   have e6:=e5 k hlt
   have hin:=LI (k+1) (by omega)
   have AT:=zzs f (l.getD (k+1) default) (by omega)
   have AV:atV f (l.getD (k+1) default)=(zao f (l.getD (k+1) default),0):=by unfold atV;rw[if_neg (by simp[hf]),if_pos hin]
   rw[AV]at AT
   have p03:=z57 hf hin
   iterate 2(try simp(etaStruct := .none)only[push_cast,zab,seval,LL,Int.add_sub_cancel,e3,e4,zaa _ _ _ hlt2,zbb,e6];try refine xsu ?_)
   refine caP (AT) ?_
   iterate 2(try simp(etaStruct := .none)only[push_cast,zab,seval,LL,Int.add_sub_cancel,e3,e4,zaa _ _ _ hlt2,zbb,e6];try refine xsu ?_)
   refine cI (fun h3 => ?_) fun h3 => ?_
   ·have hc:znt (zao f (l.getD (k+1) default))=false:=decide_eq_false (by omega)
    have e:=LN (by omega) (by omega) hc
    iterate 2(try simp(etaStruct := .none)only[push_cast,zab,seval,LL,Int.add_sub_cancel,e3,e4,zaa _ _ _ hlt2,zbb,e6];try refine xsu ?_)
    (first|(refine zaz rfl (Wk.of ?_);(try simp(etaStruct := .none)only[push_cast,zab,seval]);first|done|(simp[e, *];done)|(simp_all[e];done))|(refine zaz rfl ?_;(try simp(etaStruct := .none)only[push_cast,zab,seval]);(try simp[e, *]);(try exact wkc)))
   ·have hc:znt (zao f (l.getD (k+1) default))=true:=decide_eq_true (by omega)
    iterate 2(try simp(etaStruct := .none)only[push_cast,zab,seval,LL,Int.add_sub_cancel,e3,e4,zaa _ _ _ hlt2,zbb,e6];try refine xsu ?_)
    refine⟨k+1,⟨by omega,fun j h0 h1=>by rcases Nat.lt_or_ge k j with h|h;rw[show j=k+1 by omega];exact hc;exact hn j h0 h⟩,by omega,To.mk [0] rfl rfl (by decide) ?_ ?_⟩
    ·(iterate 2((try simp(etaStruct := .none)only[push_cast,zab,seval,LL,Int.add_sub_cancel,e3,e4,zaa _ _ _ hlt2,zbb,e6]);(try(refine xsu ?_;try exact xtI))))
    ·(iterate 2((try simp(etaStruct := .none)only[push_cast,zab,seval,LL,Int.add_sub_cancel,e3,e4,zaa _ _ _ hlt2,zbb,e6]);(try(refine xsu ?_;try exact xtI))))
  ·have e:=LT (fun j h0 h1=>hn j h0 (by omega))
   iterate 2(try simp(etaStruct := .none)only[push_cast,zab,seval,LL,Int.add_sub_cancel,e3,e4];try refine xsu ?_)
   (first|(refine zaz rfl (Wk.of ?_);(try simp(etaStruct := .none)only[push_cast,zab,seval]);first|done|(simp[e, *];done)|(simp_all[e];done))|(refine zaz rfl ?_;(try simp(etaStruct := .none)only[push_cast,zab,seval]);(try simp[e, *]);(try exact wkc)))
theorem yly (f:Fld) (c:Cel):(atV f c).2=if zb7 f≠0 then zb7 f else if inF f c then 0 else 7:=by
 unfold atV;split
 ·rfl
 ·split<;>rfl
theorem ynd {f:Fld} {c:Cel} (h:(atV f c).2=0):zb7 f=0∧inF f c=true:=by
 rw[yly]at h
 split at h
 ·rename_i h1;exact absurd h h1
 ·rename_i h1
  split at h
  ·rename_i h2;exact⟨Decidable.not_not.1 h1,h2⟩
  ·simp at h
def zqh (f:Fld) (a b:Cel):Bool × Int:=if zb7 f≠0 then (false,zb7 f)else if inF f a&&inF f b then (zjz f a b,0)else (false,7)
theorem yff (f:Fld) (a b:Cel) (hl:f.p.length≤9223372036854775807):Spec Tryz.prog 159 [z3k f,zhv a,zhv b] [] (.tup [B (zqh f a b).1,I .i64 (zqh f a b).2]) []:=by
 refine spB Tryz.func159 38 [.tmp 6,.tmp 7] Tryz.results159 ?_
 try refine xst ?_
 refine za3 (fun k:Nat=>⟨[(15,I .i64 k),(14,.agg [I .i64 a.x,I .i64 a.y,I .i64 b.x,I .i64 b.y]),(5,.ptr 2 0 0),(4,.ptr 1 0 0),(3,.ptr 0 0 0)],[(0,.blk 24 [I .i64 f.w,I .i64 f.h,.c (.sl 1 (f.p.map zae))]),(1,.blk 46 [I .i64 a.x,I .i64 a.y]),(2,.blk 46 [I .i64 b.x,I .i64 b.y])],3⟩) (fun k:Nat=>k≤2∧(0<k→zb7 f=0∧inF f a=true)∧(1<k→inF f b=true)) (fun k:Nat=>2-k) (0) (⟨by omega,fun h=>by omega,fun h=>by omega⟩) (To.mk [0,1,2] rfl rfl (by decide) ?_ ?_) ?_
 ·simp(etaStruct := .none)only[push_cast,zab,seval]
 ·simp(etaStruct := .none)only[push_cast,zab,seval]
 rintro k ⟨hk,q1,q2⟩
 try refine xst ?_
 refine cI (fun h1 => ?_) fun h1 => ?_
 ·obtain⟨c,hc1,hc2,hc3⟩:∃c:Cel,(k=0→c=a)∧(k=1→c=b)∧List.take 2 (List.drop (k*2) [AV.c (PV.v (.int .i64 a.x)),.c (.v (.int .i64 a.y)),.c (.v (.int .i64 b.x)),.c (.v (.int .i64 b.y))]) = [.c (.v (.int .i64 c.x)),.c (.v (.int .i64 c.y))]:=by
   rcases (show k=0∨k=1 by omega)with rfl|rfl
   ·exact⟨a,fun _=>rfl,fun h=>by omega,rfl⟩
   ·exact⟨b,fun h=>by omega,fun _=>rfl,rfl⟩
  try refine xz1 hc3 ?_
  refine caP (zzs f c hl) ?_
  try refine xz1 hc3 ?_
  refine cI (fun h2 => ?_) fun h2 => ?_
  ·have e2:=yly f c
   have e3:zqh f a b=(false,(atV f c).2):=by
    unfold zqh
    by_cases hf:zb7 f=0
    ·rw[if_neg (by simp[hf])]
     rw[if_neg (by simp[hf])]at e2
     cases hc:inF f c with
     | true=>rw[hc]at e2;exact absurd e2 h2
     | false =>
      rw[hc]at e2
      rw[e2]
      rcases (show k=0∨k=1 by omega)with h|h
      ·rw[←hc1 h,hc];rfl
      ·rw[←hc2 h,hc];simp
    ·rw[if_pos hf]at e2 ⊢;rw[e2]
   try refine xz1 hc3 ?_
   (first|(refine zaz rfl (Wk.of ?_);(try simp(etaStruct := .none)only[push_cast,zab,seval]);first|done|(simp[e3, *];done)|(simp_all[e3];done))|(refine zaz rfl ?_;(try simp(etaStruct := .none)only[push_cast,zab,seval]);(try simp[e3, *]);(try exact wkc)))
  ·obtain⟨a1,a2⟩:=ynd h2
   try refine xz1 hc3 ?_
   refine⟨k+1,⟨by omega,fun _=>⟨a1,by rcases (show k=0∨k=1 by omega)with h|h;rw[←hc1 h];exact a2;exact(q1 (by omega)).2⟩,fun h=>by rw[←hc2 (by omega)];exact a2⟩,by omega,To.mk [0,1,2] rfl rfl (by decide) ?_ ?_⟩
   ·(try(refine xz1 hc3 ?_;try exact xtI))
   ·(try(refine xz1 hc3 ?_;try exact xtI))
 ·obtain⟨hf,ha⟩:=q1 (by omega)
  have hb:=q2 (by omega)
  have e4:zqh f a b=(zjz f a b,0):=by unfold zqh;rw[if_neg (by simp[hf]),if_pos (by simp[ha,hb])]
  try refine xst ?_
  refine caP (z92 f a b hf ha hb) ?_
  try refine xst ?_
  refine gcP (fun hcc=>z92 f b a hf hb ha) ?_
  try refine xst ?_
  (first|(refine zaz rfl (Wk.of ?_);(try simp(etaStruct := .none)only[push_cast,zab,seval]);first|done|(simp[e4,zjz, *];done)|(simp_all[e4,zjz];done))|(refine zaz rfl ?_;(try simp(etaStruct := .none)only[push_cast,zab,seval]);(try simp[e4,zjz, *]);(try exact wkc)))
end Go.Proofs.YtmjbgbmegbkmhaaGreat
namespace Go.Proofs.YtmjbgbmegbkmhaaGreat
set_option linter.all false
open Go.RowKit
set_option maxRecDepth 100000
def z66 (a b:Cel):Nat:=max (a.x-b.x).natAbs (a.y-b.y).natAbs
def zj3 (w:Wld) (x y:Trp):Bool := !decide (x.owner=y.owner)&&decide ((z66 x.c y.c:Int)≤(zbl x.kind).blow)&&zjz w.f x.c y.c
def zmx (w:Wld) (b:Blw):Bool:=(zdr w b.by_).isSome&&(zdr w b.at_).isSome&&zj3 w ((zdr w b.by_).getD z86) ((zdr w b.at_).getD z86)
def zl5 (w:Wld) (t:Trp) (b:Blw):Bool:=decide (b.by_=t.id)&&zmx w b
def zwh (w:Wld) (l:List Blw) (id:Int) (t:Trp):Int:=match l.find? (zl5 w t)with|some b=>if b.at_=id then (zbl t.kind).load else 0|none=>0
def z4r (l:List Int):Int:=l.sum
theorem zu0:∀(l:List Int) (i:Nat) (v:Int),i<l.length→z4r (l.set i v)=z4r l-l.getD i default+v
 | [],i,v,h=>by simp at h
 | a::r,0,v,_=>by simp[z4r];omega
 | a::r,i+1,v,h=>by
  have:=zu0 r i v (by simpa using h)
  simp only[z4r,List.set_cons_succ,List.sum_cons,List.getD_cons_succ]at this ⊢
  omega
def zgc (w:Wld) (l:List Blw) (id:Int):Int:=z4r (w.troops.map (zwh w l id))
def Ups (w:Wld):Prop:=∀i j,i<j→j<w.troops.length→(w.troops.getD i default).id<(w.troops.getD j default).id
theorem yey {w:Wld} (h:zaw w=0):Ups w:=by
 intro i j hij hj
 have h2:=(zfq h hj).2
 unfold z85 at h2
 have:=(zbk _ _).1 h2 i hij
 simp only[Bool.and_eq_true,decide_eq_true_eq]at this
 exact this.1
theorem Ups.ne {w:Wld} (h:Ups w) {i j:Nat} (hi:i<w.troops.length) (hj:j<w.troops.length) (hne:i≠j):(w.troops.getD i default).id≠(w.troops.getD j default).id:=by
 rcases Nat.lt_or_gt_of_ne hne with h1|h1
 ·have:=h i j h1 hj;omega
 ·have:=h j i h1 hi;omega
theorem zy8 {w:Wld} {n:Int} (h:(zdr w n).isSome=true):∃i,i<w.troops.length∧(w.troops.getD i default).id=n∧(zdr w n).getD z86=w.troops.getD i default:=by
 unfold zdr at *
 obtain⟨t,ht⟩:=Option.isSome_iff_exists.1 h
 have hm:=List.mem_of_find?_eq_some ht
 have hp:=List.find?_some ht
 obtain⟨i,hi,e⟩:=mem_getD.1 hm
 refine⟨i,hi,by rw[e];simpa using hp,by rw[ht,e];rfl⟩
theorem zrw (w:Wld) (l:List Blw) (b:Blw) (id:Int) (t:Trp):zwh w (l ++ [b]) id t=if l.any (zl5 w t)=false∧zl5 w t b=true then (if b.at_=id then (zbl t.kind).load else 0)else zwh w l id t:=by
 unfold zwh
 rw[List.find?_append]
 cases h:l.find? (zl5 w t)with
 | some x =>
  have hx:=List.find?_some h
  have hm:=List.mem_of_find?_eq_some h
  have:l.any (zl5 w t)=true:=List.any_eq_true.2 ⟨x,hm,hx⟩
  rw[if_neg (by simp[this])];rfl
 | none =>
  have:l.any (zl5 w t)=false:=by rw[List.any_eq_false];intro x hx;exact List.find?_eq_none.1 h x hx
  rw[this]
  cases hp:zl5 w t b with
  | true=>simp[hp]
  | false=>simp[hp]
theorem z2v (w:Wld) (l:List Blw) (id:Int) (t:Trp) (h:l.any (zl5 w t)=false):zwh w l id t=0:=by
 unfold zwh
 rw[List.find?_eq_none.2 (fun x hx=>by have:=List.any_eq_false.1 h x hx;simpa using this)]
theorem z2z {w:Wld} (hu:Ups w) (l:List Blw) (b:Blw) (id:Int) (h:zmx w b=false∨∃i,i<w.troops.length∧(w.troops.getD i default).id=b.by_∧l.any (zl5 w (w.troops.getD i default))=true):zgc w (l ++ [b]) id=zgc w l id:=by
 unfold zgc
 congr 1
 refine List.map_congr_left fun t ht => ?_
 rw[zrw,if_neg]
 rintro⟨h1,h2⟩
 rcases h with h|⟨i,hi,e,h3⟩
 ·unfold zl5 at h2;rw[h]at h2;simp at h2
 ·obtain⟨j,hj,rfl⟩:=mem_getD.1 ht
  by_cases hij:i=j
  ·subst hij;rw[h3]at h1;simp at h1
  ·have:=hu.ne hi hj hij
   unfold zl5 at h2
   simp only[Bool.and_eq_true,decide_eq_true_eq]at h2
   omega
theorem z2y {w:Wld} (hu:Ups w) (l:List Blw) (b:Blw) (id:Int) (hb:zmx w b=true) {i:Nat} (hi:i<w.troops.length) (hid:(w.troops.getD i default).id=b.by_) (hn:l.any (zl5 w (w.troops.getD i default))=false) :
 zgc w (l ++ [b]) id=zgc w l id+(if b.at_=id then (zbl (w.troops.getD i default).kind).load else 0):=by
 have e:w.troops.map (zwh w (l ++ [b]) id)=(w.troops.map (zwh w l id)).set i (if b.at_=id then (zbl (w.troops.getD i default).kind).load else 0):=by
  refine List.ext_getElem (by simp) fun j h1 h2 => ?_
  rw[List.length_map]at h1
  rw[List.getElem_map,List.getElem_set,zrw,←zag _ _ h1]
  by_cases hij:i=j
  ·subst hij
   rw[if_pos rfl,if_pos ⟨hn,by unfold zl5;rw[hb,hid];simp⟩]
  ·have:=hu.ne hi h1 hij
   rw[if_neg hij,if_neg,List.getElem_map,←zag _ _ h1]
   rintro⟨_,h3⟩
   unfold zl5 at h3
   simp only[Bool.and_eq_true,decide_eq_true_eq]at h3
   omega
 unfold zgc
 rw[e,zu0 _ _ _ (by simpa using hi)]
 have:(w.troops.map (zwh w l id)).getD i default=0:=by
  rw[zag _ _ (by simpa using hi),List.getElem_map,←zag _ _ hi]
  exact z2v _ _ _ _ hn
 omega
theorem zwj (w:Wld) (id:Int):zgc w [] id=0:=by
 unfold zgc z4r
 induction w.troops with
 | nil=>rfl
 | cons a r ih=>rw[List.map_cons,List.sum_cons,ih];rfl
def zo7 (w:Wld) (l:List Blw):List Int:=w.troops.map fun t=>zgc w l t.id
def zbq (w:Wld) (l:List Blw):Int:=if zaw w≠0 then zaw w else if 200<l.length then 2 else 0
def zhq (w:Wld) (l:List Blw):List Int:=if zbq w l=0 then zo7 w l else []
def zd6 (w:Wld) (l:List Blw) (t:Trp):Trp:={ t with life:=t.life-zgc w l t.id }
def zil (w:Wld) (l:List Blw):List Trp:=(w.troops.map (zd6 w l)).filter fun t=>decide (0<t.life)
def z7f (w:Wld) (l:List Blw):List Int:=((w.troops.map (zd6 w l)).filter fun t => !decide (0<t.life)).map (·.id)
def ze2 (w:Wld) (l:List Blw):Wld:={ w with troops:=zil w l }
end Go.Proofs.YtmjbgbmegbkmhaaGreat
namespace Go.Proofs.YtmjbgbmegbkmhaaGreat
set_option linter.all false
open Go.RowKit
set_option maxRecDepth 100000
set_option maxHeartbeats 400000
theorem zoz (a b:Cel):(if (b.x-a.x).natAbs<(b.y-a.y).natAbs then ((b.y-a.y).natAbs:Int)else ((b.x-a.x).natAbs:Int))=(z66 a b:Int):=by
 unfold z66;split<;>omega
theorem zoy (a b:Cel) (ha:zep a=true) (hb:zep b=true):Spec Tryz.prog 158 [zhv a,zhv b] [] (.tup [I .i64 (z66 a b:Nat),I .i64 (((b.x-a.x).natAbs+(b.y-a.y).natAbs:Nat):Int),I .i64 0]) []:=by
 have ha1:=ha
 have hb1:=hb
 unfold zep at ha1 hb1
 rw[decide_eq_true_eq]at ha1 hb1
 refine spB Tryz.func158 43 [.tmp 4,.tmp 5,.tmp 6] Tryz.results158 ?_
 try refine xst ?_
 refine caP (zvx a ⟨by omega,by omega⟩ ⟨by omega,by omega⟩) ?_
 try refine xst ?_
 refine gcP (fun hcc=>zvx b ⟨by omega,by omega⟩ ⟨by omega,by omega⟩) ?_
 try refine xst ?_
 refine cI (fun h1 => ?_) fun h1 => ?_
 ·rw[ha,hb]at h1;simp at h1
 ·try refine xst ?_
  refine caP (zu6 (b.x-a.x) ⟨by omega,by omega⟩ (by omega)) ?_
  try refine xst ?_
  refine caP (zu6 (b.y-a.y) ⟨by omega,by omega⟩ (by omega)) ?_
  try refine xst ?_
  (first|(refine zaz rfl (Wk.of ?_);(try simp(etaStruct := .none)only[push_cast,zab,seval]);first|done|(simp[zoz, *];done)|(simp_all[zoz];done))|(refine zaz rfl ?_;(try simp(etaStruct := .none)only[push_cast,zab,seval]);(try simp[zoz, *]);(try exact wkc)))
theorem z5m {f:Fld} {a b:Cel} (hf:zb7 f=0) (ha:inF f a=true) (hb:inF f b=true):zqh f a b=(zjz f a b,0):=by
 unfold zqh;rw[if_neg (by simp[hf]),if_pos (by simp[ha,hb])]
theorem zvy {f:Fld} {c:Cel} (hf:zb7 f=0) (h:inF f c=true):zep c=true:=by
 have h1:=inF_iff.1 h
 obtain⟨h2,h3,_⟩:=zbs hf
 unfold zep
 rw[decide_eq_true_eq];omega
theorem z76 (w:Wld) (x y:Trp) (hl:zf7 w) (hw:zaw w=0) (hx:x∈w.troops) (hy:y∈w.troops):Spec Tryz.prog 131 [zdi w,yed x,yed y] [] (B (zj3 w x y)) []:=by
 obtain⟨hf,_⟩:=zdt hw
 have ox:=zp2 hw hx
 have oy:=zp2 hw hy
 have ix:=(ground_iff.1 ox.at_).1
 have iy:=(ground_iff.1 oy.at_).1
 have es:=z5m hf ix iy
 refine spB Tryz.func131 51 [.tmp 6] Tryz.results131 ?_
 try refine xst ?_
 refine caP (zhh x.kind) ?_
 try refine xst ?_
 refine caP (zoy x.c y.c (zvy hf ix) (zvy hf iy)) ?_
 try refine xst ?_
 refine cI (fun h1 => ?_) fun h1 => ?_
 ·have e:zj3 w x y=false:=by
   unfold zj3
   rcases h1 with h|h
   ·simp[h]
   ·simp only[Bool.and_eq_false_iff];exact .inl (.inr (by simpa using h))
  try refine xst ?_
  (first|(refine zaz rfl (Wk.of ?_);(try simp(etaStruct := .none)only[push_cast,zab,seval]);first|done|(simp[e, *];done)|(simp_all[e];done))|(refine zaz rfl ?_;(try simp(etaStruct := .none)only[push_cast,zab,seval]);(try simp[e, *]);(try exact wkc)))
 ·have e:zj3 w x y=zjz w.f x.c y.c:=by
   unfold zj3
   rw[decide_eq_false h1.1,decide_eq_true h1.2];simp
  try refine xst ?_
  refine caP (yff w.f x.c y.c hl.1) ?_
  try refine xst ?_
  rw[es]
  (first|(refine zaz rfl (Wk.of ?_);(try simp(etaStruct := .none)only[push_cast,zab,seval]);first|done|(simp[e, *];done)|(simp_all[e];done))|(refine zaz rfl ?_;(try simp(etaStruct := .none)only[push_cast,zab,seval]);(try simp[e, *]);(try exact wkc)))
def IdxM (w:Wld) (k:Nat) (es:List (List Int × Int)):Prop:=(∀i:Int,zlt [i] es=(w.troops.take k).any fun t=>decide (t.id=i))∧∀j,j<k→zdg [(w.troops.getD j default).id] es=(j:Int)
theorem IdxM.step {w:Wld} (hu:Ups w) {k:Nat} {es:List (List Int × Int)} (h:IdxM w k es) (hk:k<w.troops.length):IdxM w (k+1) (zgv [(w.troops.getD k default).id] (k:Int) es):=by
 refine⟨fun i => ?_,fun j hj => ?_⟩
 ·rw[zls,zas _ _ hk,List.any_append,h.1 i]
  simp only[List.any_cons,List.any_nil,Bool.or_false,List.cons.injEq,and_true]
  by_cases hi:i=(w.troops.getD k default).id
  ·rw[if_pos hi,decide_eq_true hi.symm,Bool.or_true]
  ·rw[if_neg hi,decide_eq_false (Ne.symm hi),Bool.or_false]
 ·rw[zci]
  by_cases hjk:j=k
  ·subst hjk;rw[if_pos rfl]
  ·have:=hu j k (by omega) hk
   rw[if_neg (fun h=>by have:=(List.cons.inj h).1;omega)]
   exact h.2 j (by omega)
theorem z15 {k:List Int} {es:List (List Int × Int)} (h:zlt k es=false):zdg k es=0:=by
 unfold zlt at h;unfold zdg
 cases hm:zc0 k 0 es with
 | none=>rfl
 | some p=>rw[hm]at h;simp at h
theorem IdxM.get {w:Wld} {es:List (List Int × Int)} (h:IdxM w w.troops.length es) (hpos:0<w.troops.length) (a:Int):∃i:Nat,i<w.troops.length∧zdg [a] es=(i:Int)∧zlt [a] es=(zdr w a).isSome∧((zdr w a).isSome=true→(w.troops.getD i default).id=a∧(zdr w a).getD z86=w.troops.getD i default):=by
 have h1:=h.1 a
 rw[List.take_length]at h1
 cases hf:zdr w a with
 | none =>
  have e:zlt [a] es=false:=by
   rw[h1,List.any_eq_false]
   intro x hx
   have:=List.find?_eq_none.1 hf x hx
   simpa using this
  exact⟨0,hpos,z15 e,e,fun h=>by simp at h⟩
 | some t =>
  obtain⟨i,hi,e1,e2⟩:=zy8 (w:=w) (n:=a) (by rw[hf];rfl)
  refine⟨i,hi,?_,?_,fun _=>⟨e1,by rw[←hf];exact e2⟩⟩
  ·rw[←e1];exact h.2 i hi
  ·rw[h1,List.any_eq_true.2 ⟨w.troops.getD i default,zbj _ _ hi,by simpa using e1⟩];rfl
theorem zl2 (k:Int):0≤(zbl k).load∧(zbl k).load≤4:=by unfold zbl;split<;>(try split)<;>simp
theorem z7e {w:Wld} {l:List Blw} {harm:List Int} (hl:harm.length=w.troops.length) (h:∀j,j<w.troops.length→harm.getD j default=zgc w l (w.troops.getD j default).id):harm=zo7 w l:=by
 refine List.ext_getElem (by unfold zo7;rw[List.length_map];exact hl) fun j h1 h2 => ?_
 have:=h j (by omega)
 rw[zag _ _ h1,zag _ _ (by omega)]at this
 simp only[zo7,List.getElem_map];exact this
theorem yj5 {l:List Bool} {i:Nat} (v:Bool) (p:Nat) (hi:i<l.length):(l.set i v).getD p default=if p=i then v else l.getD p default:=by
 by_cases h:p=i
 ·subst h;rw[if_pos rfl,zag _ _ (by simpa using hi)];simp
 ·rw[if_neg h]
  simp only[List.getD_eq_getElem?_getD,List.getElem?_set,if_neg (Ne.symm h)]
theorem yfe {l:List Int} {i:Nat} (v:Int) (p:Nat) (hi:i<l.length):(l.set i v).getD p default=if p=i then v else l.getD p default:=by
 by_cases h:p=i
 ·subst h;rw[if_pos rfl,zag _ _ (by simpa using hi)];simp
 ·rw[if_neg h]
  simp only[List.getD_eq_getElem?_getD,List.getElem?_set,if_neg (Ne.symm h)]
theorem ydv (w:Wld) (l:List Blw) (hl:zf7 w) (hll:l.length≤9223372036854775807) (h:zbq w l≠0):Spec Tryz.prog 88 [zdi w,.c (.sl 2 (l.map zfa))] [] (.tup [.c (.sl 1 ((zhq w l).map zae)),I .i64 (zbq w l)]) []:=by
 have e2:zhq w l = []:=by unfold zhq;rw[if_neg h]
 refine spB Tryz.func88 120 [.tmp 4,.tmp 5] Tryz.results88 ?_
 try refine xst ?_
 refine caP (zeq w hl) ?_
 try refine xst ?_
 refine cI (fun h1 => ?_) fun h1 => ?_
 ·have e:zbq w l=zaw w:=by unfold zbq;rw[if_pos h1]
  try refine xst ?_
  (first|(refine zaz rfl (Wk.of ?_);(try simp(etaStruct := .none)only[push_cast,zab,seval]);first|done|(simp[e,e2, *];done)|(simp_all[e,e2];done))|(refine zaz rfl ?_;(try simp(etaStruct := .none)only[push_cast,zab,seval]);(try simp[e,e2, *]);(try exact wkc)))
 ·try refine xst ?_
  refine cI (fun h2 => ?_) fun h2 => ?_
  ·have e:zbq w l=2:=by unfold zbq;rw[if_neg (by simpa using h1),if_pos (by omega)]
   try refine xst ?_
   (first|(refine zaz rfl (Wk.of ?_);(try simp(etaStruct := .none)only[push_cast,zab,seval]);first|done|(simp[e,e2, *];done)|(simp_all[e,e2];done))|(refine zaz rfl ?_;(try simp(etaStruct := .none)only[push_cast,zab,seval]);(try simp[e,e2, *]);(try exact wkc)))
  ·exact absurd (by unfold zbq;rw[if_neg (by simpa using h1),if_neg (by omega)]) h
end Go.Proofs.YtmjbgbmegbkmhaaGreat
namespace Go.Proofs.YtmjbgbmegbkmhaaGreat
set_option linter.all false
open Go.RowKit
set_option maxRecDepth 100000
set_option maxHeartbeats 1000000
def zb6 (x:Nod):List PV := [pI x.c.x,pI x.c.y,pI x.far,pI x.all]
theorem zq9 (x:Nod):zb6 x = [pI x.c.x,pI x.c.y,pI x.far,pI x.all]:=rfl
abbrev yej (x:Nod):AV := .agg [I .i64 x.c.x,I .i64 x.c.y,I .i64 x.far,I .i64 x.all]
theorem zq7 (l:List Nod):Spec Tryz.prog 190 [.c (.sl 4 (l.map zb6))] [] (I .i64 l.length) []:=by
 refine spB Tryz.func190 5 [.tmp 2] Tryz.results190 ?_
 try refine xst ?_
 exact xrz rfl
theorem zom (l:List Nod) (i j:Nat) (hi:i<l.length) (hj:j<l.length):Spec Tryz.prog 216 [.c (.sl 4 (l.map zb6)),I .i64 i,I .i64 j] [] (B (decide ((l.getD i default).all<(l.getD j default).all))) []:=by
 refine spB Tryz.func216 18 [.tmp 6] Tryz.results216 ?_
 try refine xz3 (gd hi) (gd hj) zq9 ?_
 (try(refine⟨by kernel_rfl,?_⟩))
 try refine xz3 (gd hi) (gd hj) zq9 ?_
 exact xrz rfl
theorem zoj (l:List Nod) (i j:Nat) (hi:i<l.length) (hj:j<l.length):Spec Tryz.prog 217 [.own 0,I .i64 i,I .i64 j] [.row 327 4 (l.map zb6)] (.tup []) [.row 327 4 ((zdk l i j).map zb6)]:=by
 have hj2:j<(l.set i (l.getD j default)).length:=by rw[List.length_set];exact hj
 refine spB Tryz.func217 20 [] Tryz.results217 ?_
 try refine xz3 (gd hi) (gd hj) zq9 ?_
 (try(refine⟨by kernel_rfl,?_⟩))
 try refine xz3 (gd hi) (gd hj) zq9 ?_
 refine zbc [0] rfl rfl (by decide) ⟨?_,trivial⟩ trivial ?_<;>simp(etaStruct := .none)only[push_cast,zab,seval,zdk,←List.map_set,List.length_map,List.map_set,zb6]
theorem z6e (f:Fld) (b:Cel) (far:List Int)(l:List Nod) (x:Nod) (hl:l.length≤1000000):Spec Tryz.prog 219 [.ptr 0 0 6,.ifc 327 (yej x)] [.blk 300 [I .i64 f.w,I .i64 f.h,.c (.sl 1 (f.p.map zae)),I .i64 b.x,I .i64 b.y,.own 1,.own 2],.row 3 1 (far.map zae),.row 327 4 (l.map zb6)] (.tup []) [.blk 300 [I .i64 f.w,I .i64 f.h,.c (.sl 1 (f.p.map zae)),I .i64 b.x,I .i64 b.y,.own 1,.own 3],.row 3 1 (far.map zae),.dead,.row 327 4 ((l ++ [x]).map zb6)]:=by
 refine spB Tryz.func219 13 [] Tryz.results219 ?_
 try refine xst ?_
 (try(refine⟨by kernel_rfl,?_⟩))
 try refine xst ?_
 refine zbc [0,1,2,31] rfl rfl (by decide) ⟨?_,?_,?_,?_,trivial⟩ trivial ?_<;>simp(etaStruct := .none)only[push_cast,zab,seval,List.map_append,zb6]
theorem ybq (f:Fld) (b:Cel) (far:List Int)(l:List Nod) (n:Nat) (hn:l.length=n+1) (hl:l.length≤1000001):Spec Tryz.prog 218 [.ptr 0 0 6] [.blk 300 [I .i64 f.w,I .i64 f.h,.c (.sl 1 (f.p.map zae)),I .i64 b.x,I .i64 b.y,.own 1,.own 2],.row 3 1 (far.map zae),.row 327 4 (l.map zb6)] (.ifc 327 (yej (l.getD n default))) [.blk 300 [I .i64 f.w,I .i64 f.h,.c (.sl 1 (f.p.map zae)),I .i64 b.x,I .i64 b.y,.own 1,.own 3],.row 3 1 (far.map zae),.dead,.row 327 4 ((l.take n).map zb6)]:=by
 have hlt:n<l.length:=by omega
 have e1:IntKind.i64.wrap ((l.length:Int)-1)=(n:Int):=by rw[zaq _ (by omega) (by omega)];omega
 refine spB Tryz.func218 23 [.tmp 2] Tryz.results218 ?_
 try refine xz3 e1 (gd hlt) zq9 ?_
 refine zoe (To.cutC 0 6 2 n 327 4 300 _ (l.map zb6) rfl rfl rfl (by rw[List.length_map];omega)) ?_
 refine zbc [0,1,2,4] rfl rfl (by decide) ⟨?_,?_,?_,?_,trivial⟩ trivial ?_<;>simp(etaStruct := .none)only[push_cast,zab,seval,List.map_take,List.set_cons_zero,List.set_cons_succ]
theorem yfx (f:Fld) (b:Cel) (far:List Int)(l:List Nod) (j:Nat) (hj:j<l.length) (hl:l.length≤1000001):Spec Tryz.prog 196 [.ifc 325 (.ptr 0 0 6),I .i64 j] [.blk 300 [I .i64 f.w,I .i64 f.h,.c (.sl 1 (f.p.map zae)),I .i64 b.x,I .i64 b.y,.own 1,.own 2],.row 3 1 (far.map zae),.row 327 4 (l.map zb6)] (.tup []) [.blk 300 [I .i64 f.w,I .i64 f.h,.c (.sl 1 (f.p.map zae)),I .i64 b.x,I .i64 b.y,.own 1,.own 2],.row 3 1 (far.map zae),.row 327 4 ((hup Nod.all l j).map zb6)]:=by
 refine spB Tryz.func196 23 [] Tryz.results196 ?_
 try refine xz1 zet ?_
 refine za3 (fun x:List Nod × Nat=>⟨[(1,I .i64 x.2),(0,.ifc 325 (.ptr 0 0 6))],[(0,.blk 300 [I .i64 f.w,I .i64 f.h,.c (.sl 1 (f.p.map zae)),I .i64 b.x,I .i64 b.y,.own 1,.own 2]),(1,.row 3 1 (far.map zae)),(2,.row 327 4 (x.1.map zb6))],3⟩) (fun x:List Nod × Nat=>x.2<x.1.length∧x.1.length≤1000001∧hup Nod.all x.1 x.2=hup Nod.all l j) (fun x:List Nod × Nat=>x.2) ((l,j)) (⟨hj,hl,rfl⟩) (To.mk [0,1,2] rfl rfl (by decide) ?_ ?_) ?_
 ·simp(etaStruct := .none)only[push_cast,zab,seval]
 ·simp(etaStruct := .none)only[push_cast,zab,seval]
 rintro⟨m,i⟩ ⟨hi,hm,hu⟩
 simp only at hi hm hu
 have lp:par i≤i:=by simp only[par];omega
 have hp:par i<m.length:=by omega
 try refine xz1 zet ?_
 refine zl8 (fun hcc=>zom m i (par i) hi hp) (WkL.refl _) rfl (by intro hc;(try simp(etaStruct := .none)only[push_cast,zab,seval]);(try simp_all)) ?_
 try refine xz1 zet ?_
 refine cI (fun h1 => ?_) fun h1 => ?_
 ·have e:hup Nod.all m i=m:=by
   rw[hup,if_pos]
   rcases h1 with h|h
   ·exact .inl (by omega)
   ·exact .inr (by omega)
  rw[←hu,e]
  try refine xz1 zet ?_
  refine zbc [0,1,2] rfl rfl (by decide) ⟨?_,?_,?_,trivial⟩ trivial ?_<;>simp(etaStruct := .none)only[push_cast,zab,seval]
 ·have e:hup Nod.all m i=hup Nod.all (zdk m (par i) i) (par i):=by rw[hup,if_neg];rintro (h|h)<;>omega
  have lt:par i<i:=by omega
  try refine xz1 zet ?_
  refine caM [2] (zoj m (par i) i hp hi) ?_
  try refine xz1 zet ?_
  refine⟨(zdk m (par i) i,par i),⟨by rw[zav];exact hp,by rw[zav];exact hm,by rw[←hu,e]⟩,lt,To.mk [0,1,2] rfl rfl (by decide) ?_ ?_⟩
  ·(try(refine xz1 zet ?_;try exact xtI))
  ·(try(refine xz1 zet ?_;try exact xtI))
theorem z6i (f:Fld) (b:Cel) (far:List Int)(l:List Nod) (x:Nod) (hl:l.length≤1000000):Spec Tryz.prog 189 [.ifc 325 (.ptr 0 0 6),.ifc 327 (yej x)] [.blk 300 [I .i64 f.w,I .i64 f.h,.c (.sl 1 (f.p.map zae)),I .i64 b.x,I .i64 b.y,.own 1,.own 2],.row 3 1 (far.map zae),.row 327 4 (l.map zb6)] (.tup []) [.blk 300 [I .i64 f.w,I .i64 f.h,.c (.sl 1 (f.p.map zae)),I .i64 b.x,I .i64 b.y,.own 1,.own 3],.row 3 1 (far.map zae),.dead,.row 327 4 ((zd4 Nod.all l x).map zb6)]:=by
 have hlen:(l ++ [x]).length=l.length+1:=by simp
 have e1:IntKind.i64.wrap (((l ++ [x]).length:Int)-1)=(l.length:Int):=by rw[zaq _ (by omega) (by omega)];omega
 refine spB Tryz.func189 12 [] Tryz.results189 ?_
 try refine xz1 e1 ?_
 refine caM [0,1,2] (z6e f b far l x hl) ?_
 try refine xz1 e1 ?_
 refine zcw (zq7 (l ++ [x])) (WkL.refl _) rfl ?_
 try refine xz1 e1 ?_
 refine caM [0,1,3] (yfx f b far (l ++ [x]) l.length (by omega) (by omega)) ?_
 try refine xz1 e1 ?_
 refine zbc [0,1,2,3] rfl rfl (by decide) ⟨?_,?_,?_,?_,trivial⟩ trivial ?_<;>simp(etaStruct := .none)only[push_cast,zab,seval,zd4]
theorem yb0 (f:Fld) (b:Cel) (far:List Int)(l:List Nod) (n:Nat) (hn:n≤l.length) (hl:l.length≤1000001):Spec Tryz.prog 197 [.ifc 325 (.ptr 0 0 6),I .i64 0,I .i64 n] [.blk 300 [I .i64 f.w,I .i64 f.h,.c (.sl 1 (f.p.map zae)),I .i64 b.x,I .i64 b.y,.own 1,.own 2],.row 3 1 (far.map zae),.row 327 4 (l.map zb6)] .undef [.blk 300 [I .i64 f.w,I .i64 f.h,.c (.sl 1 (f.p.map zae)),I .i64 b.x,I .i64 b.y,.own 1,.own 2],.row 3 1 (far.map zae),.row 327 4 ((hdn Nod.all l 0 n).map zb6)]:=by
 refine spB Tryz.func197 48 [.tmp 6] Tryz.results197 ?_
 try refine xst ?_
 refine za3 (fun x:List Nod × Nat=>⟨[(7,I .i64 x.2),(2,I .i64 n),(1,I .i64 0),(0,.ifc 325 (.ptr 0 0 6))],[(0,.blk 300 [I .i64 f.w,I .i64 f.h,.c (.sl 1 (f.p.map zae)),I .i64 b.x,I .i64 b.y,.own 1,.own 2]),(1,.row 3 1 (far.map zae)),(2,.row 327 4 (x.1.map zb6))],3⟩) (fun x:List Nod × Nat=>x.2≤n∧n≤x.1.length∧x.1.length≤1000001∧hdn Nod.all x.1 x.2 n=hdn Nod.all l 0 n) (fun x:List Nod × Nat=>n-x.2) ((l,0)) (⟨Nat.zero_le _,hn,hl,rfl⟩) (To.mk [0,1,2] rfl rfl (by decide) ?_ ?_) ?_
 ·simp(etaStruct := .none)only[push_cast,zab,seval]
 ·simp(etaStruct := .none)only[push_cast,zab,seval]
 rintro⟨m,i⟩ ⟨hi,hm,hm2,hu⟩
 simp only at hi hm hm2 hu
 obtain⟨a,ha⟩:∃a:Nat,a=2*i+1:=⟨_,rfl⟩
 obtain⟨b,hb⟩:∃b:Nat,b=2*i+2:=⟨_,rfl⟩
 have e1:IntKind.i64.wrap (IntKind.i64.wrap (2*(i:Int))+1)=(a:Int):=by rw[zaq (2*_) (by omega) (by omega),zaq _ (by omega) (by omega)];omega
 have e2:IntKind.i64.wrap ((a:Int)+1)=(b:Int):=by rw[zaq _ (by omega) (by omega)];omega
 simp(etaStruct := .none)only[push_cast,zab,seval,e1,e2]
 try refine xst ?_
 refine cI (fun h1 => ?_) fun h1 => ?_
 ·have e:hdn Nod.all m i n=m:=by rw[hdn,if_pos];exact .inl (by omega)
  rw[←hu,e]
  try refine xst ?_
  refine zbc [0,1,2] rfl rfl (by decide) ⟨?_,?_,?_,trivial⟩ trivial (Wk.undef _)<;>simp(etaStruct := .none)only[push_cast,zab,seval]
 ·try refine xz2 e1 e2 ?_
  refine zl8 (fun hcc=>zom m b a (by simp only[decide_eq_true_eq]at hcc;omega) (by omega)) (WkL.refl _) rfl (by intro hc;(try simp(etaStruct := .none)only[push_cast,zab,seval]);(try simp_all)) ?_
  try refine xz2 e1 e2 ?_
  refine cI (fun h2 => ?_) fun h2 => ?_
  ·have ek:kid Nod.all m i n=b:=by unfold kid;rw[←ha,←hb,if_pos ⟨by omega,h2.2⟩]
   try refine xz2 e1 e2 ?_
   refine zcw (zom m b i (by omega) (by omega)) (WkL.refl _) rfl ?_
   try refine xz2 e1 e2 ?_
   refine cI (fun h3 => ?_) fun h3 => ?_
   ·have e:hdn Nod.all m i n=m:=by rw[hdn,if_pos];rw[ek];exact .inr (by omega)
    rw[←hu,e]
    try refine xz2 e1 e2 ?_
    refine zbc [0,1,2] rfl rfl (by decide) ⟨?_,?_,?_,trivial⟩ trivial (Wk.undef _)<;>simp(etaStruct := .none)only[push_cast,zab,seval]
   ·have e:hdn Nod.all m i n=hdn Nod.all (zdk m i b) b n:=by rw[hdn,if_neg,ek];rw[ek];rintro (h|h)<;>omega
    try refine xz2 e1 e2 ?_
    refine caM [2] (zoj m i b (by omega) (by omega)) ?_
    try refine xz2 e1 e2 ?_
    refine⟨(zdk m i b,b),⟨by simp only;omega,by rw[zav];exact hm,by rw[zav];exact hm2,by rw[←hu,e]⟩,by simp only;omega,To.mk [0,1,2] rfl rfl (by decide) ?_ ?_⟩
    ·(try(refine xz2 e1 e2 ?_;try exact xtI))
    ·(try(refine xz2 e1 e2 ?_;try exact xtI))
  ·have ek:kid Nod.all m i n=a:=by unfold kid;rw[←ha,←hb,if_neg (fun h=>by have:=h.1;have:=h.2;omega)]
   try refine xz2 e1 e2 ?_
   refine zcw (zom m a i (by omega) (by omega)) (WkL.refl _) rfl ?_
   try refine xz2 e1 e2 ?_
   refine cI (fun h4 => ?_) fun h4 => ?_
   ·have e:hdn Nod.all m i n=m:=by rw[hdn,if_pos];rw[ek];exact .inr (by omega)
    rw[←hu,e]
    try refine xz2 e1 e2 ?_
    refine zbc [0,1,2] rfl rfl (by decide) ⟨?_,?_,?_,trivial⟩ trivial (Wk.undef _)<;>simp(etaStruct := .none)only[push_cast,zab,seval]
   ·have e:hdn Nod.all m i n=hdn Nod.all (zdk m i a) a n:=by rw[hdn,if_neg,ek];rw[ek];rintro (h|h)<;>omega
    try refine xz2 e1 e2 ?_
    refine caM [2] (zoj m i a (by omega) (by omega)) ?_
    try refine xz2 e1 e2 ?_
    refine⟨(zdk m i a,a),⟨by simp only;omega,by rw[zav];exact hm,by rw[zav];exact hm2,by rw[←hu,e]⟩,by simp only;omega,To.mk [0,1,2] rfl rfl (by decide) ?_ ?_⟩
    ·(try(refine xz2 e1 e2 ?_;try exact xtI))
    ·(try(refine xz2 e1 e2 ?_;try exact xtI))
theorem yby (f:Fld) (b:Cel) (far:List Int)(l:List Nod) (h0:0<l.length) (hl:l.length≤1000001):Spec Tryz.prog 191 [.ifc 325 (.ptr 0 0 6)] [.blk 300 [I .i64 f.w,I .i64 f.h,.c (.sl 1 (f.p.map zae)),I .i64 b.x,I .i64 b.y,.own 1,.own 2],.row 3 1 (far.map zae),.row 327 4 (l.map zb6)] (.ifc 327 (yej (l.getD 0 default))) [.blk 300 [I .i64 f.w,I .i64 f.h,.c (.sl 1 (f.p.map zae)),I .i64 b.x,I .i64 b.y,.own 1,.own 3],.row 3 1 (far.map zae),.dead,.row 327 4 ((zf6 Nod.all l).map zb6)]:=by
 obtain⟨n,hn⟩:∃n,l.length=n+1:=⟨l.length-1,by omega⟩
 have e1:IntKind.i64.wrap ((l.length:Int)-1)=(n:Int):=by rw[zaq _ (by omega) (by omega)];omega
 have e2:=zrv Nod.all l h0
 have e3:zf6 Nod.all l=(hdn Nod.all (zdk l 0 n) 0 n).take n:=by unfold zf6;rw[hn];rfl
 rw[hn,Nat.add_sub_cancel]at e2
 rw[←e2,e3]
 refine spB Tryz.func191 15 [.tmp 2] Tryz.results191 ?_
 try refine xz1 e1 ?_
 refine zcw (zq7 l) (WkL.refl _) rfl ?_
 try refine xz1 e1 ?_
 refine caM [2] (zoj l 0 n h0 (by omega)) ?_
 try refine xz1 e1 ?_
 refine caM [0,1,2] (yb0 f b far (zdk l 0 n) n (by rw[zav];omega) (by rw[zav];omega)) ?_
 try refine xz1 e1 ?_
 refine caM [0,1,2] (ybq f b far (hdn Nod.all (zdk l 0 n) 0 n) n (by rw[zo6,zav];exact hn) (by rw[zo6,zav];exact hl)) ?_
 try refine xz1 e1 ?_
 refine zbc [0,1,2,3] rfl rfl (by decide) ⟨?_,?_,?_,?_,trivial⟩ trivial ?_<;>simp(etaStruct := .none)only[push_cast,zab,seval]
theorem zgf (n:Nat) (h:n<18446744073709551616):IntKind.u64.wrap (n:Int)=n:=by rw[IntKind.wrap_u64];omega
theorem zhg (n:Nat) (h:n<4294967296):bits .and .u64 (n:Int) 4294967295=(n:Int):=by
 show IntKind.u64.wrap ((BitVec.ofInt 64 (n:Int) &&& BitVec.ofInt 64 ((4294967295:Nat):Int)).toNat:Nat)=_
 rw[BitVec.toNat_and,BitVec.ofInt_natCast,BitVec.ofInt_natCast,BitVec.toNat_ofNat,BitVec.toNat_ofNat,Nat.mod_eq_of_lt (show n<2 ^ 64 by omega),Nat.mod_eq_of_lt (show 4294967295<2 ^ 64 by decide)]
 have:n &&& 4294967295=n:=by rw[show (4294967295:Nat)=2 ^ 32-1 from rfl,Nat.and_two_pow_sub_one_eq_mod,Nat.mod_eq_of_lt (by omega)]
 rw[this]
 exact zgf n (by omega)
theorem yb1 (n:Nat) (h:n≤1600):Spec Tryz.prog 195 [.c (.v (.int .u64 1)),.c (.v (.int .u64 n))] [] (.tup [.c (.v (.int .u64 0)),.c (.v (.int .u64 n))]) []:=by
 have a1:=zhg n (by omega)
 have a2:bits .and .u64 1 4294967295=1:=zhg 1 (by decide)
 have a3:bits .and .u64 0 4294967295=0:=zhg 0 (by decide)
 have w1:∀x:Int,0≤x→x≤1600→IntKind.u64.wrap x=x:=fun x h1 h2=>by
  obtain⟨k,rfl⟩:=Int.eq_ofNat_of_zero_le h1
  exact zgf k (by omega)
 have d1:(n:Int).fdiv 4294967296=0:=by rw[Int.fdiv_eq_ediv_of_nonneg _ (by decide)];omega
 have d2:(1:Int).fdiv 4294967296=0:=rfl
 have d3:(0:Int).fdiv 4294967296=0:=rfl
 have e1:IntKind.u64.wrap (n:Int)=n:=w1 _ (by omega) (by omega)
 have e0:IntKind.u64.wrap 0=0:=rfl
 have hm:(2:Int) ^ min 32 IntKind.u64.bits=4294967296:=rfl
 refine spB Tryz.func195 51 [.tmp 4,.tmp 5] Tryz.results195 ?_
 iterate 2(try simp(etaStruct := .none)only[push_cast,zab,seval,hm,a1,a2,a3,d1,d2,d3,e1,e0,Int.mul_zero,Int.zero_mul,Int.one_mul,Int.add_zero,Int.zero_add];try refine xsu ?_)
 exact xrz rfl
theorem ykk (n:Nat) (h:n≤1600):Spec Tryz.prog 188 [.c (.v (.int .u64 1)),.c (.v (.int .u64 n))] [] (.tup [.c (.v (.int .u64 0)),.c (.v (.int .u64 n))]) []:=by
 refine spB Tryz.func188 30 [.tmp 4,.tmp 5] Tryz.results188 ?_
 try refine xst ?_
 refine cI (fun h1 => ?_) fun h1 => ?_
 ·exact absurd h1 (by decide)
 ·try refine xst ?_
  refine caP (yb1 n h) ?_
  try refine xst ?_
  exact xrz rfl
def rp (k n:Nat):List Int:=List.replicate k (-1)++List.replicate (n-k) 0
theorem yfo {k n:Nat} (h:k≤n):(rp k n).length=n:=by unfold rp;simp;omega
theorem z0v {k n:Nat} (h:k≤n):(rp k n).take k=List.replicate k (-1):=by unfold rp;rw[List.take_append_of_le_length (by simp)];simp
theorem zm2 {α β : Type} (f : α → β) (l:List α) (o:Nat) (m:List α):zap (l.map f) o (m.map f)=(zap l o m).map f:=by
 unfold zap
 rw[List.map_append,List.map_append,List.map_take,List.map_drop,List.length_map]
theorem yba {k n:Nat} (h:k≤n):zap (rp k n) k ((List.replicate k (-1)).take (n-k))=rp (k+min k (n-k)) n:=by
 rw[List.take_replicate]
 unfold zap
 rw[z0v h,List.length_replicate]
 unfold rp
 rw[List.drop_append,List.length_replicate,List.drop_of_length_le (by simp),List.nil_append,show k+min (n-k) k-k=min (n-k) k from by omega,List.drop_replicate,←List.append_assoc,List.replicate_append_replicate,Nat.min_comm (n-k) k,show n-k-min k (n-k)=n-(k+min k (n-k))from by omega]
theorem z5y {n:Nat} (h:1≤n):zap (List.replicate n (0:Int)) 0 ([(-1:Int)].take n)=rp 1 n:=by
 obtain⟨m,rfl⟩:∃m,n=m+1:=⟨n-1,by omega⟩
 unfold zap rp
 simp
theorem zvd (n:Nat) (hpos:1≤n) (h:n≤1600):Spec Tryz.prog 178 [.own 0,I .i64 n] [.row 3 1 [[pI (-1)]]] (.own 1) [.row 3 1 [[pI (-1)]],.row 3 1 ((List.replicate n (-1:Int)).map zae)]:=by
 have e1:IntKind.u64.wrap (n:Int)=n:=zgf n (by omega)
 have e2:IntKind.u64.wrap 1=1:=rfl
 have e3:IntKind.i64.wrap (n:Int)=n:=zaq _ (by omega) (by omega)
 have hf:=z5y hpos
 have hf2:zap (List.replicate n [pI 0]) 0 (([[pI (-1)]]:List (List PV)).take n)=(rp 1 n).map zae:=by rw[←hf,←zm2];simp[zae]
 have hmn:min 1 n=1:=by omega
 refine spB Tryz.func178 48 [.tmp 4] Tryz.results178 ?_
 try refine xz3 e1 e2 e3 ?_
 refine cI (fun h1 => ?_) fun h1 => ?_
 ·exfalso;omega
 ·try refine xz3 e1 e2 e3 ?_
  refine caP (ykk n h) ?_
  try refine xz3 e1 e2 e3 ?_
  refine cI (fun h2 => ?_) fun h2 => ?_
  ·exfalso;omega
  ·try refine xz3 e1 e2 e3 ?_
   refine za3 (fun k:Nat=>⟨[(8,I .i64 k),(7,.own 1)],[(0,.row 3 1 [[pI (-1)]]),(1,.row 3 1 ((rp k n).map zae))],2⟩) (fun k:Nat=>1≤k∧k≤n) (fun k:Nat=>n-k) (1) (⟨Nat.le_refl _,hpos⟩) (To.mk [0,1] rfl rfl (by decide) ?_ ?_) ?_
   ·simp(etaStruct := .none)only[push_cast,zab,seval,List.length_replicate]
    simpa only[zap,List.take_zero,List.nil_append,Nat.zero_add]using hf2
   ·simp(etaStruct := .none)only[push_cast,zab,seval,List.length_replicate,hmn]
   rintro k ⟨hk1,hk⟩
   have hrl:=yfo hk
   have hrc:=yba hk
   have htk:((rp k n).map zae).take k=(List.replicate k (-1:Int)).map zae:=by rw[←List.map_take,z0v hk]
   have hs2:zap ((rp k n).map zae) k ((((rp k n).map zae).take k).take (n-k))=(rp (k+min k (n-k)) n).map zae:=by rw[htk,←List.map_take,zm2,hrc]
   have hl2:(((rp k n).map zae).take k).length=k:=by rw[List.length_take,List.length_map,hrl];omega
   unfold zap at hs2
   try refine xz3 e1 e2 e3 ?_
   refine cI (fun h3 => ?_) fun h3 => ?_
   ·skip
    try refine xz3 e1 e2 e3 ?_
    (try(refine⟨by kernel_rfl,?_⟩))
    try refine xz3 e1 e2 e3 ?_
    refine⟨k+min k (n-k),⟨by omega,by omega⟩,by omega,To.mk [0,1] rfl rfl (by decide) ?_ ?_⟩
    ·try refine xz1 hrl ?_
     exact hs2
    ·(try(refine xz2 hl2 hrl ?_;try exact xtI))
   ·obtain rfl:k=n:=by omega
    have hrn:rp k k=List.replicate k (-1):=by unfold rp;simp
    try refine xz3 e1 e2 e3 ?_
    refine zbc [0,1] rfl rfl (by decide) ⟨?_,?_,trivial⟩ trivial ?_<;>simp(etaStruct := .none)only[push_cast,zab,seval,hrn]
abbrev yj4 (f:Fld) (b:Cel) (far:List Int) (q:List Nod):List PV := [pI f.w,pI f.h,.sl 1 (f.p.map zae),pI b.x,pI b.y,.sl 1 (far.map zae),.sl 4 (q.map zb6)]
theorem zes (f:Fld) (b:Cel) (far:List Int) (q:List Nod) (c:Cel) (hf:zb7 f=0) (hc:inF f c=true):Spec Tryz.prog 163 [.fel 7 [yj4 f b far q] 0 0,zhv c] [] (I .i64 (zar f c)) []:=by
 obtain⟨i1,i2,i3,i4,i5⟩:=zby hf hc
 have hci:=inF_iff.1 hc
 have e1:IntKind.i64.wrap (IntKind.i64.wrap (c.y*f.w)+c.x)=(zar f c:Int):=by rw[zaq (c.y*f.w) (by omega) (by omega),zaq _ (by omega) (by omega)];unfold zar;omega
 refine spB Tryz.func163 16 [.tmp 4] Tryz.results163 ?_
 try refine xz1 e1 ?_
 (try(refine⟨by kernel_rfl,?_⟩))
 try refine xz1 e1 ?_
 exact xrz rfl
def zda (f:Fld) (c:Cel):Int × Bool:=if inF f c then (if zao f c=1 then (0,false)else (kV (zao f c),true))else (0,false)
theorem ztf (f:Fld) (b:Cel) (far:List Int) (q:List Nod) (c:Cel) (hf:zb7 f=0):Spec Tryz.prog 161 [.fel 7 [yj4 f b far q] 0 0,zhv c] [] (.tup [I .i64 (zda f c).1,B (zda f c).2]) []:=by
 have hfo:=zbs hf
 have hav:atV f c=if inF f c then (zao f c,0)else (0,7):=by unfold atV;rw[if_neg (by simp[hf])]
 have hm:f.w*f.h≤40*40:=Int.mul_le_mul hfo.1.2 hfo.2.1.2 (by omega) (by omega)
 refine spB Tryz.func161 28 [.tmp 4,.tmp 5] Tryz.results161 ?_
 try refine xst ?_
 refine caP (zzs f c (by omega)) ?_
 rw[hav]
 try refine xst ?_
 (try(refine⟨by kernel_rfl,?_⟩))
 try refine xst ?_
 refine cI (fun h1 => ?_) fun h1 => ?_
 ·have hin:inF f c=false:=by
   cases hc:inF f c with
   | false=>rfl
   | true=>rw[hc]at h1;simp at h1
  have e:zda f c=(0,false):=by unfold zda;rw[if_neg (by simp[hin])]
  rw[e]
  try refine xst ?_
  exact xrz rfl
 ·have hin:inF f c=true:=by
   cases hc:inF f c with
   | true=>rfl
   | false=>rw[hc]at h1;simp at h1
  rw[if_pos hin]
  try refine xst ?_
  refine caP (yhk (zao f c)) ?_
  have hpl:=hfo.2.2.2 _ (zbj f.p _ (show (c.y*f.w+c.x).toNat<f.p.length by have:=zby hf hin;omega))
  have hcv:=z77 (q:=zao f c) hpl
  have e:zda f c=if zao f c=1 then (0,false)else (kV (zao f c),true):=by unfold zda;rw[if_pos hin]
  have e3:(zda f c).1=(ze8 (zao f c)).1∧(zda f c).2=decide ((ze8 (zao f c)).2=0):=by
   rw[e]
   rcases hcv with h|h
   ·rw[if_pos h.1,h.2];exact⟨rfl,rfl⟩
   ·rw[if_neg h.1,h.2];exact⟨rfl,rfl⟩
  rw[e3.1,e3.2]
  try refine xst ?_
  exact xrz rfl
theorem zvl (c:Cel) (hx : -1000000≤c.x∧c.x≤1000000) (hy : -1000000≤c.y∧c.y≤1000000):Spec Tryz.prog 162 [zhv c] [] (.agg [I .i64 c.x,I .i64 (c.y-1),I .i64 (c.x-1),I .i64 c.y,I .i64 (c.x+1),I .i64 c.y,I .i64 c.x,I .i64 (c.y+1)]) []:=by
 refine spB Tryz.func162 28 [.cell 2 295] Tryz.results162 ?_
 try refine xst ?_
 exact xrz rfl
def zbm (b c:Cel):Int:=2*(((b.x-c.x).natAbs+(b.y-c.y).natAbs:Nat):Int)
end Go.Proofs.YtmjbgbmegbkmhaaGreat
namespace Go.Proofs.YtmjbgbmegbkmhaaGreat
set_option linter.all false
open Go.RowKit
set_option maxRecDepth 100000
def lk (f:Fld) (b:Cel) (far:List Int) (d:Int) (q:List Nod) (c:Cel):List Nod:=if (zda f c).2=true∧far.getD (zar f c) default<0 then zd4 Nod.all q ⟨c,d+(zda f c).1,d+(zda f c).1+zbm b c⟩else q
def ze6 (f:Fld) (b:Cel) (far:List Int) (d:Int) (q:List Nod) (l:List Cel):List Nod:=l.foldl (lk f b far d) q
theorem znh (f:Fld) (b:Cel) (far:List Int) (d:Int) (q:List Nod) (l:List Cel) (c:Cel):ze6 f b far d q (l ++ [c])=lk f b far d (ze6 f b far d q l) c:=by unfold ze6;rw[List.foldl_append];rfl
theorem ygq (f:Fld) (b:Cel) (far:List Int) (d:Int) (q:List Nod) (c:Cel):(lk f b far d q c).length≤q.length+1:=by
 unfold lk;split
 ·rw[zl4];exact Nat.le_refl _
 ·omega
theorem zlx (f:Fld) (b:Cel) (far:List Int) (d:Int) (l:List Cel):∀q:List Nod,(ze6 f b far d q l).length≤q.length+l.length:=by
 induction l with
 | nil=>intro q;exact Nat.le_refl _
 | cons c r ih=>intro q;have h1:=ih (lk f b far d q c);have h2:=ygq f b far d q c;simp only[ze6,List.foldl_cons,List.length_cons]at *;omega
def goB (f:Fld) (b:Cel) (far:List Int) (q:List Nod):Prop:=0<q.length∧(far.getD (zar f b) default<0∨(q.getD 0 default).all≤far.getD (zar f b) default)
def zle (f:Fld) (b:Cel):Nat→List Int→List Nod→List Int × List Nod
 | 0,far,q=>(far,q)
 | N+1,far,q=>if 0<q.length∧(far.getD (zar f b) default<0∨(q.getD 0 default).all≤far.getD (zar f b) default)then
  (if 0≤far.getD (zar f (q.getD 0 default).c) default then zle f b N far (zf6 Nod.all q)
   else zle f b N (far.set (zar f (q.getD 0 default).c) (q.getD 0 default).far) (ze6 f b (far.set (zar f (q.getD 0 default).c) (q.getD 0 default).far) (q.getD 0 default).far (zf6 Nod.all q) (zal (q.getD 0 default).c)))
  else (far,q)
section
variable {f : Fld} {W H : Nat}
theorem zud (hw:f.w=(W:Int)) (hh:f.h=(H:Int)) (hW:0<W) {p:Nat} (hp:p<W*H):inF f (zd8 W p)=true∧zar f (zd8 W p)=p:=by
 have h1:=Nat.div_add_mod p W
 have h2:=Nat.mod_lt p hW
 have h3:p/W<H:=by rw[Nat.div_lt_iff_lt_mul hW,Nat.mul_comm];exact hp
 unfold zd8 zar
 refine⟨inF_iff.2 ⟨⟨Int.natCast_nonneg _,by simp only;rw[hw];exact Int.ofNat_lt.2 h2⟩,Int.natCast_nonneg _,by simp only;rw[hh];exact Int.ofNat_lt.2 h3⟩,?_⟩
 simp only
 rw[hw,show ((p/W:Nat):Int)*(W:Int)=((W*(p/W):Nat):Int)from by rw[Nat.mul_comm,Int.natCast_mul]]
 omega
theorem zbp (hw:f.w=(W:Int)) (hh:f.h=(H:Int)) (hW:0<W) (hf:zb7 f=0) {c:Cel} (hc:inF f c=true):c=zd8 W (zar f c)∧zar f c<f.p.length:=by
 obtain⟨i1,i2,i3,i4,i5⟩:=zby hf hc
 have hci:=inF_iff.1 hc
 obtain⟨x,hx⟩:∃x:Nat,c.x=(x:Int):=Int.eq_ofNat_of_zero_le hci.1.1
 obtain⟨y,hy⟩:∃y:Nat,c.y=(y:Int):=Int.eq_ofNat_of_zero_le hci.2.1
 have e:zar f c=W*y+x:=by
  unfold zar
  rw[hx,hy,hw,show (y:Int)*(W:Int)=((W*y:Nat):Int)from by rw[Nat.mul_comm,Int.natCast_mul]]
  omega
 have hxW:x<W:=by omega
 refine⟨?_,by unfold zar;omega⟩
 rw[e]
 unfold zd8
 rw[Nat.mul_add_mod,Nat.mod_eq_of_lt hxW,Nat.mul_add_div hW,Nat.div_eq_of_lt hxW,Nat.add_zero,←hx,←hy]
theorem zo4 (hw:f.w=(W:Int)) (hh:f.h=(H:Int)) (hW:0<W) (b:Cel):yh8 W (W*H) fun p=>zbm b (zd8 W p):=by
 intro p n hp hn ha
 have key:∀c c':Cel,(c.x=c'.x∧(c.y=c'.y+1∨c'.y=c.y+1))∨(c.y=c'.y∧(c.x=c'.x+1∨c'.x=c.x+1))→zbm b c≤zbm b c'+2:=by
  intro c c' h;unfold zbm;omega
 refine key _ _ ?_
 have h1:=Nat.div_add_mod p W
 have h2:=Nat.div_add_mod n W
 have m1:=Nat.mod_lt p hW
 have m2:=Nat.mod_lt n hW
 unfold zd8
 simp only
 have up:∀m:Nat,(m+W) % W=m % W∧(m+W)/W=m/W+1:=fun m=>⟨Nat.add_mod_right m W,Nat.add_div_right m hW⟩
 have side:∀m:Nat,0<(m+1) % W→(m+1) % W=m % W+1∧(m+1)/W=m/W:=fun m h=>by
  have hs:=zu1 hW m
  have hl:=Nat.mod_lt m hW
  have hd:=Nat.div_add_mod m W
  split at hs
  ·omega
  ·rename_i hne
   refine⟨hs,?_⟩
   have hlt:m % W+1<W:=by omega
   have:m+1=W*(m/W)+(m % W+1):=by rw[←Nat.add_assoc,Nat.div_add_mod]
   rw[this,Nat.mul_add_div hW,Nat.div_eq_of_lt hlt,Nat.add_zero]
 rcases ha with h|⟨h,h'⟩|⟨h,h'⟩|h
 ·obtain⟨u1,u2⟩:=up n;rw[h]at u1 u2;exact .inl ⟨by omega,.inl (by omega)⟩
 ·obtain⟨u1,u2⟩:=side n (by rw[h];exact h');rw[h]at u1 u2;exact .inr ⟨by omega,.inl (by omega)⟩
 ·obtain⟨u1,u2⟩:=side p (by rw[h];exact h');rw[h]at u1 u2;exact .inr ⟨by omega,.inr (by omega)⟩
 ·obtain⟨u1,u2⟩:=up p;rw[h]at u1 u2;exact .inl ⟨by omega,.inr (by omega)⟩
theorem z2a (hw:f.w=(W:Int)) (hh:f.h=(H:Int)) (hW:0<W) (hf:zb7 f=0) (hL:f.p.length=W*H) (b:Cel) {a p:Nat} {far:List Int} {q:List Nod} {done:Nat→Nat→Prop} {d:Int} (h:As W f.p a (fun n=>zbm b (zd8 W n)) far q done) (hp:p<f.p.length) (hd:far.getD p default=d) (h0:0≤d)
 (top:∀m,m<f.p.length→0≤far.getD m default→far.getD m default+zbm b (zd8 W m)≤d+zbm b (zd8 W p)) (hb:d+3≤3*ziy ze9 far) (c:Cel) (hc:inF f c=true→Adj W p (zar f c)) :
 As W f.p a (fun n=>zbm b (zd8 W n)) far (lk f b far d q c) fun x n=>done x n∨(x=p∧inF f c=true∧n=zar f c):=by
 have hcons:=zo4 hw hh hW b
 rw[←hL]at hcons
 cases hin:inF f c with
 | false =>
  have e:lk f b far d q c=q:=by unfold lk zda;rw[if_neg (by rw[hin];simp)]
  rw[e]
  refine⟨h.len,h.low,h.heap,h.itm,h.src,h.why,h.top,fun u v h1 h2 h3 h4=>h.all u v h1 h2 h3 ?_⟩
  rcases h4 with h4|h4
  ·exact h4
  ·exact absurd h4.2.1 (by decide)
 | true =>
  obtain⟨e1,e2⟩:=zbp hw hh hW hf hin
  have epl:zao f c=f.p.getD (zar f c) default:=rfl
  refine h.look hcons (n:=zar f c) e2 hp (hc hin) (by rw[hd];exact h0) (fun m h1 h2=>by rw[hd];exact top m h1 h2) (by rw[hd];exact hb) _ (fun x y h4=>by
   rcases h4 with h4|h4
   ·exact .inl h4
   ·exact .inr ⟨h4.1,h4.2.2⟩) ?_
  unfold lk zda
  rw[if_pos hin,epl,hd]
  by_cases hr:f.p.getD (zar f c) default=1
  ·rw[if_pos hr,if_neg (by simp)]
   exact .inl ⟨.inl hr,rfl⟩
  ·rw[if_neg hr]
   by_cases hn:far.getD (zar f c) default<0
   ·rw[if_pos ⟨rfl,hn⟩,←e1]
    exact .inr ⟨hr,hn,rfl⟩
   ·rw[if_neg (fun h=>hn h.2)]
    exact .inl ⟨.inr (by omega),rfl⟩
theorem zk9 (hw:f.w=(W:Int)) (hh:f.h=(H:Int)) (hW:0<W) {p:Nat} (hp:p<W*H) {c:Cel} (hc:c∈zal (zd8 W p)) (hin:inF f c=true):Adj W p (zar f c):=by
 obtain⟨bm,_⟩:=znv f hw hh hW hp
 have:zar f c∈zmi W H p:=by rw[←bm];exact List.mem_map_of_mem (List.mem_filter.2 ⟨hc,hin⟩)
 exact((znf hW hp).1 this).2
theorem zsh (hw:f.w=(W:Int)) (hh:f.h=(H:Int)) (hW:0<W) {p n:Nat} (hp:p<W*H) (hn:n<W*H) (ha:Adj W p n):∃c∈zal (zd8 W p),inF f c=true∧n=zar f c:=by
 obtain⟨bm,_⟩:=znv f hw hh hW hp
 have:=(znf hW hp).2 ⟨hn,ha⟩
 rw[←bm]at this
 obtain⟨c,hc,e⟩:=List.mem_map.1 this
 obtain⟨h1,h2⟩:=List.mem_filter.1 hc
 exact⟨c,h1,h2,e.symm⟩
def yhe (f:Fld) (W p k:Nat) (x n:Nat):Prop:=x≠p∨∃c∈(zal (zd8 W p)).take k,inF f c=true∧n=zar f c
theorem z9n (hw:f.w=(W:Int)) (hh:f.h=(H:Int)) (hW:0<W) (hf:zb7 f=0) (hL:f.p.length=W*H) (b:Cel) {a p:Nat} {far:List Int} {q:List Nod} {d:Int} (h:As W f.p a (fun n=>zbm b (zd8 W n)) far q (fun x _=>x≠p)) (hp:p<f.p.length) (hd:far.getD p default=d) (h0:0≤d)
 (top:∀m,m<f.p.length→0≤far.getD m default→far.getD m default+zbm b (zd8 W m)≤d+zbm b (zd8 W p)) (hb:d+3≤3*ziy ze9 far):∀k,k≤4→As W f.p a (fun n=>zbm b (zd8 W n)) far (ze6 f b far d q ((zal (zd8 W p)).take k)) (yhe f W p k):=by
 intro k
 induction k with
 | zero =>
  intro _
  refine⟨h.len,h.low,h.heap,h.itm,h.src,h.why,h.top,fun u v h1 h2 h3 h4=>h.all u v h1 h2 h3 ?_⟩
  rcases h4 with h4|⟨c,hc,_⟩
  ·exact h4
  ·simp at hc
 | succ k ih =>
  intro hk
  have hlt:k<(zal (zd8 W p)).length:=by rw[show (zal (zd8 W p)).length=4 from rfl];omega
  rw[zas _ _ hlt,znh]
  have:=z2a hw hh hW hf hL b (ih (by omega)) hp hd h0 top hb ((zal (zd8 W p)).getD k default) (fun hin=>zk9 hw hh hW (by omega) (zbj _ _ hlt) hin)
  refine⟨this.len,this.low,this.heap,this.itm,this.src,this.why,this.top,fun u v h1 h2 h3 h4=>this.all u v h1 h2 h3 ?_⟩
  rcases h4 with h4|⟨c,hc,h5,h6⟩
  ·exact .inl (.inl h4)
  ·rw[zas _ _ hlt,List.mem_append,List.mem_singleton]at hc
   by_cases hu:u=p
   ·rcases hc with hc|hc
    ·exact .inl (.inr ⟨c,hc,h5,h6⟩)
    ·subst hc;exact .inr ⟨hu,h5,h6⟩
   ·exact .inl (.inl hu)
theorem zv9 (hw:f.w=(W:Int)) (hh:f.h=(H:Int)) (hW:0<W) (hL:f.p.length=W*H) {a p:Nat} {hf2:Nat→Int} {far:List Int} {q:List Nod} (hp:p<f.p.length) (h:As W f.p a hf2 far q (yhe f W p 4)):As W f.p a hf2 far q fun _ _=>True:=by
 refine⟨h.len,h.low,h.heap,h.itm,h.src,h.why,h.top,fun u v h1 h2 h3 _=>h.all u v h1 h2 h3 ?_⟩
 by_cases hu:u=p
 ·subst hu;exact .inr (zsh hw hh hW (by omega) (by omega) h3)
 ·exact .inl hu
end
def muS (f:Fld) (far:List Int) (q:List Nod):Nat:=5*(f.p.length-ziy ze9 far)+q.length
section
variable {f : Fld} {W H : Nat}
theorem zxb (hw:f.w=(W:Int)) (hh:f.h=(H:Int)) (hW:0<W) (hf:zb7 f=0) (hL:f.p.length=W*H) (b:Cel) {a:Nat} {far:List Int} {q:List Nod} (h:As W f.p a (fun n=>zbm b (zd8 W n)) far q fun _ _=>True) (hq:0<q.length) (h0:far.getD (zar f (q.getD 0 default).c) default<0) :
 ∃p,(q.getD 0 default).c=zd8 W p∧zar f (q.getD 0 default).c=p∧p<f.p.length∧0≤(q.getD 0 default).far∧As W f.p a (fun n=>zbm b (zd8 W n)) (far.set p (q.getD 0 default).far) (zf6 Nod.all q) (fun x _=>x≠p)∧(far.set p (q.getD 0 default).far).getD p default=(q.getD 0 default).far∧ziy ze9 (far.set p (q.getD 0 default).far)=ziy ze9 far+1 ∧
  (∀m,m<f.p.length→0≤(far.set p (q.getD 0 default).far).getD m default→(far.set p (q.getD 0 default).far).getD m default+zbm b (zd8 W m)≤(q.getD 0 default).far+zbm b (zd8 W p))∧(q.getD 0 default).far+3≤3*ziy ze9 (far.set p (q.getD 0 default).far):=by
 obtain⟨p,e1,hp,j0,jb,ja,jm,jw⟩:=h.itm _ ((zfy Nod.all q hq _).2 (.inl rfl))
 have hidx:zar f (q.getD 0 default).c=p:=by rw[e1];exact(zud hw hh hW (by omega)).2
 rw[hidx]at h0
 obtain⟨_,hA⟩:=h.close hW hq e1 h0
 have hpL:p<far.length:=by rw[h.len];exact hp
 have G:=fun k=>zn9 (q.getD 0 default).far k hpL
 have cnt:ziy ze9 (far.set p (q.getD 0 default).far)=ziy ze9 far+1:=by
  have:=zgq ze9 far p (q.getD 0 default).far hpL
  simp only[ze9,if_neg (show ¬0≤far.getD p default by omega),if_pos j0]at this;simpa[ze9]using this
 refine⟨p,e1,hidx,hp,j0,hA,by rw[G,if_pos rfl],cnt,fun m hm hm0 => ?_,by rw[cnt];omega⟩
 rw[G]at hm0 ⊢
 split
 ·rename_i e;subst e;exact Int.le_refl _
 ·rename_i e
  rw[if_neg e]at hm0
  have:=jm m hm hm0
  omega
theorem yfm (hw:f.w=(W:Int)) (hh:f.h=(H:Int)) (hW:0<W) (hf:zb7 f=0) (hL:f.p.length=W*H) (b:Cel) {a:Nat} : ∀(N:Nat) (far:List Int) (q:List Nod),As W f.p a (fun n=>zbm b (zd8 W n)) far q (fun _ _=>True)→muS f far q≤N →
 As W f.p a (fun n=>zbm b (zd8 W n)) (zle f b N far q).1 (zle f b N far q).2 (fun _ _=>True)∧¬goB f b (zle f b N far q).1 (zle f b N far q).2:=by
 intro N
 induction N with
 | zero =>
  intro far q h hm
  refine⟨h,fun hg => ?_⟩
  have:=hg.1
  simp only[zle]at this
  unfold muS at hm;omega
 | succ N ih =>
  intro far q h hm
  rw[zle]
  split
  ·rename_i hg
   have hcl:=zhi ze9 1 zhl far
   rw[h.len]at hcl
   split
   ·rename_i h0
    obtain⟨p,e1,hp,_⟩:=h.itm _ ((zfy Nod.all q hg.1 _).2 (.inl rfl))
    have hidx:zar f (q.getD 0 default).c=p:=by rw[e1];exact(zud hw hh hW (by omega)).2
    rw[hidx]at h0
    exact ih _ _ (h.skip hg.1 e1 h0) (by unfold muS at *;rw[zgx];omega)
   ·rename_i h0
    obtain⟨p,e1,hidx,hp,j0,hA,hself,cnt,top,hb⟩:=zxb hw hh hW hf hL b h hg.1 (by omega)
    have h4:=z9n hw hh hW hf hL b hA hp hself j0 top hb 4 (Nat.le_refl _)
    rw[show (zal (zd8 W p)).take 4=zal (zd8 W p)from rfl]at h4
    have h5:=zv9 hw hh hW hL hp h4
    rw[hidx,e1]
    refine ih _ _ h5 ?_
    have hll:=zlx f b (far.set p (q.getD 0 default).far) (q.getD 0 default).far (zal (zd8 W p)) (zf6 Nod.all q)
    have hcl2:=zhi ze9 1 zhl (far.set p (q.getD 0 default).far)
    rw[List.length_set,h.len]at hcl2
    rw[zgx,show (zal (zd8 W p)).length=4 from rfl]at hll
    unfold muS at *
    rw[cnt];omega
  ·rename_i hg
   exact⟨h,hg⟩
end
end Go.Proofs.YtmjbgbmegbkmhaaGreat
namespace Go.Proofs.YtmjbgbmegbkmhaaGreat
set_option linter.all false
open Go.RowKit
set_option maxRecDepth 100000
set_option maxHeartbeats 1000000
theorem ybh (f:Fld) (b:Cel) (far:List Int) (l:List Nod) (c:Cel) (d:Int) (hl:l.length≤1000000) (hx : -1000≤c.x∧c.x≤1000) (hy : -1000≤c.y∧c.y≤1000) (hbx:0≤b.x∧b.x≤40) (hby:0≤b.y∧b.y≤40) (hd:0≤d∧d≤1000000):Spec Tryz.prog 179 [.ptr 0 0 0,zhv c,I .i64 d] [.blk 300 [I .i64 f.w,I .i64 f.h,.c (.sl 1 (f.p.map zae)),I .i64 b.x,I .i64 b.y,.own 1,.own 2],.row 3 1 (far.map zae),.row 327 4 (l.map zb6)] (.tup []) [.blk 300 [I .i64 f.w,I .i64 f.h,.c (.sl 1 (f.p.map zae)),I .i64 b.x,I .i64 b.y,.own 1,.own 3],.row 3 1 (far.map zae),.dead,.row 327 4 ((zd4 Nod.all l ⟨c,d,d+zbm b c⟩).map zb6)]:=by
 have e1:IntKind.i64.wrap (d+IntKind.i64.wrap (2*(((b.x-c.x).natAbs+(b.y-c.y).natAbs:Nat):Int)))=d+zbm b c:=by unfold zbm;rw[zaq (2*_) (by omega) (by omega),zaq _ (by omega) (by omega)]
 refine spB Tryz.func179 32 [] Tryz.results179 ?_
 try refine xz1 e1 ?_
 refine caP (zoy c b (by simp[zep];omega) (by simp[zep];omega)) ?_
 try refine xz1 e1 ?_
 (try(refine⟨by kernel_rfl,?_⟩))
 try refine xz1 e1 ?_
 refine zcb [0,1,2] (z6i f b far l ⟨c,d,d+zbm b c⟩ hl) (WkL.refl _) rfl (by decide) (by simp[zay,zb1,zf9]) ?_
 try refine xz1 e1 ?_
 (try(refine⟨by kernel_rfl,?_⟩))
 try refine xz1 e1 ?_
 refine zbc [0,1,2,104] rfl rfl (by decide) ⟨?_,?_,?_,?_,trivial⟩ trivial ?_<;>simp(etaStruct := .none)only[push_cast,zab,seval]
end Go.Proofs.YtmjbgbmegbkmhaaGreat
namespace Go.Proofs.YtmjbgbmegbkmhaaGreat
set_option linter.all false
open Go.RowKit
set_option maxRecDepth 100000
def zvw (R:List Int) (f:Fld) (c n:Cel):Bool:=decide (0≤R.getD (zar f n) default)&&decide (R.getD (zar f n) default+kV (zao f c)=R.getD (zar f c) default)
def zmq (R:List Int) (f:Fld) (c:Cel):Cel:=((zen f c).find? (zvw R f c)).getD default
def zzw (R:List Int) (f:Fld) (a:Cel):Nat→Cel→List Cel
 | 0,_ => []
 | N+1,c=>if c=a then []else zmq R f c::zzw R f a N (zmq R f c)
def yec (R:List Int) (f:Fld) (a b:Cel):List Cel:=(b::zzw R f a (R.getD (zar f b) default).toNat b).reverse
def zmk (R:List Int) (f:Fld) (a b:Cel):Int:=if zb7 f≠0 then zb7 f else if ¬(inF f a=true∧inF f b=true)then 7 else if zao f a=1∨zao f b=1 then 9 else if R.getD (zar f b) default<0 then 6 else 0
theorem zsg {f:Fld} {W H:Nat} (hw:f.w=(W:Int)) (hh:f.h=(H:Int)) (hW:0<W) (hf:zb7 f=0) (hL:f.p.length=W*H) {c n:Cel} (hc:inF f c=true) (hn:n∈zen f c):inF f n=true∧Adj W (zar f c) (zar f n)∧zar f n<f.p.length:=by
 obtain⟨h1,h2⟩:=List.mem_filter.1 hn
 obtain⟨e1,e2⟩:=zbp hw hh hW hf hc
 rw[e1]at h1
 exact⟨h2,zk9 hw hh hW (by omega) h1 h2,(zbp hw hh hW hf h2).2⟩
theorem yf8 {f:Fld} {W H:Nat} (hw:f.w=(W:Int)) (hh:f.h=(H:Int)) (hW:0<W) (hf:zb7 f=0) (hL:f.p.length=W*H) {a c:Cel} {R:List Int} (hR:Flood W f.p [zar f a] R) (ha:inF f a=true) (hc:inF f c=true) (hca:c≠a) (h0:0≤R.getD (zar f c) default) :
 ∃n∈zen f c,zvw R f c n=true:=by
 obtain⟨e1,e2⟩:=zbp hw hh hW hf hc
 rcases hR.why _ e2 h0 with ⟨h1,h2⟩|⟨m,hm,hadj,hr,h3,h4⟩
 ·rw[List.mem_singleton]at h1
  have:=(zbp hw hh hW hf ha).1
  rw[←h1,←e1]at this
  exact absurd this.symm hca
 ·have hp:=hR.all m _ hm e2 hadj.symm h3 hr
  obtain⟨n,hn,hin,rfl⟩:=zsh hw hh hW (by omega) (by omega) hadj
  rw[←e1]at hn
  refine⟨n,List.mem_filter.2 ⟨hn,hin⟩,?_⟩
  unfold zvw
  have epl:zao f c=f.p.getD (zar f c) default:=rfl
  rw[epl,Bool.and_eq_true,decide_eq_true_eq,decide_eq_true_eq]
  exact⟨h3,by omega⟩
theorem z1q {f:Fld} {W H:Nat} (hw:f.w=(W:Int)) (hh:f.h=(H:Int)) (hW:0<W) (hf:zb7 f=0) (hL:f.p.length=W*H) {a c:Cel} {R:List Int} (hR:Flood W f.p [zar f a] R) (ha:inF f a=true) (hc:inF f c=true) (hca:c≠a) (h0:0≤R.getD (zar f c) default) :
 (zen f c).find? (zvw R f c)=some (zmq R f c)∧zmq R f c∈zen f c∧inF f (zmq R f c)=true∧Adj W (zar f c) (zar f (zmq R f c))∧0≤R.getD (zar f (zmq R f c)) default∧R.getD (zar f (zmq R f c)) default+kV (zao f c)=R.getD (zar f c) default:=by
 obtain⟨n,hn,hp⟩:=yf8 hw hh hW hf hL hR ha hc hca h0
 cases hfi:(zen f c).find? (zvw R f c)with
 | none=>exact absurd hp (by simpa using List.find?_eq_none.1 hfi n hn)
 | some m =>
  have e:zmq R f c=m:=by unfold zmq;rw[hfi];rfl
  have hm:=List.mem_of_find?_eq_some hfi
  have hq:=List.find?_some hfi
  unfold zvw at hq
  rw[Bool.and_eq_true,decide_eq_true_eq,decide_eq_true_eq]at hq
  obtain⟨b1,b2,_⟩:=zsg hw hh hW hf hL hc hm
  rw[e]
  exact⟨rfl,hm,b1,b2,hq.1,hq.2⟩
theorem ybg {f:Fld} {W H:Nat} (hw:f.w=(W:Int)) (hh:f.h=(H:Int)) (hW:0<W) (hf:zb7 f=0) (hL:f.p.length=W*H) {a b c:Cel} {R far:List Int} {q:List Nod} (hR:Flood W f.p [zar f a] R) (ha:inF f a=true) (hpa:zao f a≠1) (hc:inF f c=true) (h0:0≤R.getD (zar f c) default)
 (hA:As W f.p (zar f a) (fun n=>zbm b (zd8 W n)) far q fun _ _=>True) (hcb:R.getD (zar f c) default+zbm b c≤R.getD (zar f b) default) (hq:∀x∈q,R.getD (zar f b) default<x.all) (hfc:far.getD (zar f c) default=R.getD (zar f c) default) {n:Cel} (hn:n∈zal c) :
 ((zda f n).2=true∧0≤far.getD (zar f n) default∧far.getD (zar f n) default+kV (zao f c)=far.getD (zar f c) default)↔(inF f n=true∧zvw R f c n=true):=by
 have hcons:=zo4 hw hh hW b
 rw[←hL]at hcons
 have haL:=(zbp hw hh hW hf ha).2
 obtain⟨ec,hcL⟩:=zbp hw hh hW hf hc
 have hkv:=zzp (zao f c)
 have epl:∀n,zao f n=f.p.getD (zar f n) default:=fun _=>rfl
 unfold zvw zda
 rw[Bool.and_eq_true,decide_eq_true_eq,decide_eq_true_eq,hfc]
 constructor
 ·rintro⟨h1,h2,h3⟩
  have hin:inF f n=true:=by
   cases hi:inF f n with
   | true=>rfl
   | false=>rw[hi]at h1;simp at h1
  have:=hA.same hcons haL hR (zbp hw hh hW hf hin).2 h2
  rw[this]at h2 h3
  exact⟨hin,h2,h3⟩
 ·rintro⟨hin,h2,h3⟩
  obtain⟨en,hnL⟩:=zbp hw hh hW hf hin
  have hadj:Adj W (zar f c) (zar f n):=by rw[ec]at hn;exact zk9 hw hh hW (by omega) hn hin
  have hle:=hcons _ _ hnL hcL hadj.symm
  simp only at hle
  rw[←en,←ec]at hle
  have hk:=hA.known hcons haL hR hnL h2 (fun x hx=>by have:=hq x hx;rw[←en];omega)
  rw[hk]
  refine⟨?_,h2,h3⟩
  rw[if_pos hin,if_neg]
  rw[epl]
  rcases hR.why _ hnL h2 with ⟨w1,_⟩|⟨_,_,_,hr,_⟩
  ·rw[List.mem_singleton]at w1;rw[w1];exact hpa
  ·exact hr
theorem zy7 {f:Fld} {R:List Int} {c:Cel} {p:Cel→Bool} (hp:∀n∈zal c,p n=(inF f n&&zvw R f c n)):(zal c).find? p=(zen f c).find? (zvw R f c):=by
 unfold zen
 rw[List.find?_filter]
 have key:∀l:List Cel,(∀n∈l,p n=(inF f n&&zvw R f c n))→l.find? p=l.find? (fun n=>inF f n&&zvw R f c n):=by
  intro l
  induction l with
  | nil=>intro _;rfl
  | cons x r ih=>intro h;rw[List.find?_cons,List.find?_cons,h x (by simp),ih fun n hn=>h n (by simp[hn])]
 have:=key _ hp
 simpa using this
end Go.Proofs.YtmjbgbmegbkmhaaGreat
