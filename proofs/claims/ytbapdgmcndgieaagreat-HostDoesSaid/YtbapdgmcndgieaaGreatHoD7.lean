/- Lemmas for the proof of hostDoes.proved. -/
import Derived.Test.YtbapdgmcndgieaaGreatHoD6
namespace Go.Proofs.YtbapdgmcndgieaaGreat
set_option linter.all false
open Go.RowKit
set_option maxRecDepth 100000
set_option maxHeartbeats 2000000
theorem zzt (f:Fld) (R:List Int) (n:Cel) (hf:zbp f=0) (hn:inF f n=true) (hR:zau f n<R.length):Spec Tryz.prog 153 [zem n,.fel 1 [[.sl 1 (R.map zac)]] 0 0,.fel 3 [[pI f.w,pI f.h,.sl 1 (f.p.map zac)]] 0 0] [] (I .i64 (R.getD (zau f n) default)) []:=by
 obtain⟨i1,i2,i3,i4,i5⟩:=za8 hf hn
 have hci:=inF_iff.1 hn
 have e1:IntKind.i64.wrap (IntKind.i64.wrap (n.y*f.w)+n.x)=(zau f n:Int):=by rw[zaq (n.y*f.w) (by omega) (by omega),zaq _ (by omega) (by omega)];unfold zau;omega
 refine spB Tryz.func153 16 [.tmp 4] Tryz.results153 ?_
 try refine xz3 e1 (gd hR) zak ?_
 exact xrz rfl
abbrev ygm (f:Fld) (R:List Int) (c:Cel):List Chunk := [.blk 224 [.clo (.func 153) [] [.ptr 1 0 0,.ptr 2 0 0]],.blk 22 [.c (.sl 1 (R.map zac))],.blk 24 (z6v f),.blk 41 [I .i64 c.x,I .i64 c.y]]
theorem ygs (f:Fld) (R:List Int) (c n:Cel) (hf:zbp f=0) (hn:inF f n=true) (hc:inF f c=true) (hr:zag f c≠1) (hR:R.length=f.p.length) (hb : -1≤R.getD (zau f n) default∧R.getD (zau f n) default≤4800):Spec Tryz.prog 156 [zem n,.ptr 0 0 0,.ptr 2 0 0,.ptr 3 0 0] (ygm f R c) (B (znd R f c n)) (ygm f R c):=by
 have hnF:zau f n<R.length:=by rw[hR];have:=za8 hf hn;unfold zau;omega
 have hcF:zau f c<R.length:=by rw[hR];have:=za8 hf hc;unfold zau;omega
 have hkv:=zuh (zag f c)
 have hpl:=(zba hf).2.2.2 (zag f c) (za9 f.p _ (show (c.y*f.w+c.x).toNat<f.p.length by have:=za8 hf hc;omega))
 have hcost:(if zag f c=1 then (-1:Int)else kV (zag f c))=kV (zag f c):=if_neg hr
 refine spB Tryz.func156 24 [.tmp 5] Tryz.results156 ?_
 (iterate 2((try simp(etaStruct := .none)only[push_cast,seval,hcost]);(try(refine xsu ?_;try exact xtI))))
 refine zbi [some 6,some 7,some 8,some 9,some 10,some 11,some 12,some 13,some 14,some 15,some 16,some 17,some 18,some 19,some 20,some 21,some 22,some 23,some 5] rfl ?_
 intro Oq lq Rq hlq hdq hRq
 subst hlq
 iterate 2(refine za2 fun rq hrq => ?_;(iterate 2((try simp(etaStruct := .none)only[push_cast,seval,hdq,id,hcost]);(try(refine xsu ?_;try exact xtI))));subst hrq)
 refine za2 fun rq hrq => ?_
 (iterate 2((try simp(etaStruct := .none)only[push_cast,seval,hdq,id,hcost]);(try(refine xsu ?_;try exact xtI))))
 refine zbv (zzt f R n hf hn hnF) (WkL.refl _) rfl ?_
 (iterate 2((try simp(etaStruct := .none)only[push_cast,seval,hdq,id,hcost]);(try(refine xsu ?_;try exact xtI))))
 subst hrq
 iterate 4(refine za2 fun rq hrq => ?_;(iterate 2((try simp(etaStruct := .none)only[push_cast,seval,hdq,id,hcost]);(try(refine xsu ?_;try exact xtI))));subst hrq)
 refine za2 fun rq hrq => ?_
 (iterate 2((try simp(etaStruct := .none)only[push_cast,seval,hdq,id,hcost]);(try(refine xsu ?_;try exact xtI))))
 refine zg2 (fun hcc=>zzt f R n hf hn hnF) (WkL.refl _) rfl (by intro hc;(try simp(etaStruct := .none)only[push_cast,zab,seval]);(try simp_all)) ?_
 (iterate 2((try simp(etaStruct := .none)only[push_cast,seval,hdq,id,hcost]);(try(refine xsu ?_;try exact xtI))))
 subst hrq
 iterate 2(refine za2 fun rq hrq => ?_;(iterate 2((try simp(etaStruct := .none)only[push_cast,seval,hdq,id,hcost]);(try(refine xsu ?_;try exact xtI))));subst hrq)
 refine za2 fun rq hrq => ?_
 (iterate 2((try simp(etaStruct := .none)only[push_cast,seval,hdq,id,hcost]);(try(refine xsu ?_;try exact xtI))))
 refine gcP (fun hcc=>zjw f c hf hc) ?_
 (iterate 2((try simp(etaStruct := .none)only[push_cast,seval,hdq,id,hcost]);(try(refine xsu ?_;try exact xtI))))
 subst hrq
 refine za2 fun rq hrq => ?_
 (iterate 2((try simp(etaStruct := .none)only[push_cast,seval,hdq,id,hcost]);(try(refine xsu ?_;try exact xtI))))
 refine gcP (fun hcc=>zxj (zag f c) hpl) ?_
 (iterate 2((try simp(etaStruct := .none)only[push_cast,seval,hdq,id,hcost]);(try(refine xsu ?_;try exact xtI))))
 subst hrq
 iterate 3(refine za2 fun rq hrq => ?_;(iterate 2((try simp(etaStruct := .none)only[push_cast,seval,hdq,id,hcost]);(try(refine xsu ?_;try exact xtI))));subst hrq)
 refine za2 fun rq hrq => ?_
 (iterate 2((try simp(etaStruct := .none)only[push_cast,seval,hdq,id,hcost]);(try(refine xsu ?_;try exact xtI))))
 refine zg2 (fun hcc=>zzt f R c hf hc hcF) (WkL.refl _) rfl (by intro hc;(try simp(etaStruct := .none)only[push_cast,zab,seval]);(try simp_all)) ?_
 (iterate 2((try simp(etaStruct := .none)only[push_cast,seval,hdq,id,hcost]);(try(refine xsu ?_;try exact xtI))))
 subst hrq
 iterate 3(refine za2 fun rq hrq => ?_;(iterate 2((try simp(etaStruct := .none)only[push_cast,seval,hdq,id,hcost]);(try(refine xsu ?_;try exact xtI))));subst hrq)
 refine zjo ?_
 subst hRq
 clear hdq Oq
 refine zjn (by kernel_rfl) ?_
 (iterate 2((try simp(etaStruct := .none)only[push_cast,seval,hcost]);(try(refine xsu ?_;try exact xtI))))
 refine zco [0,1,2,3] rfl rfl (by decide) ⟨?_,?_,?_,?_,trivial⟩ trivial ?_<;>simp(etaStruct := .none)only[push_cast,zab,seval,znd]
theorem ygw (f:Fld) (R:List Int) (c:Cel) (l:List Cel) (hl:l.length≤1000) (hf:zbp f=0) (hc:inF f c=true) (hr:zag f c≠1) (hR:R.length=f.p.length) (hn:∀n∈l,inF f n=true ∧ -1≤R.getD (zau f n) default∧R.getD (zau f n) default≤4800):Spec Tryz.prog 155 [.c (.sl 2 (l.map zaz)),.clo (.func 156) [] [.ptr 0 0 0,.ptr 2 0 0,.ptr 3 0 0]] (ygm f R c) (I .i64 (ze4 (znd R f c) l)) (ygm f R c):=by
 refine spB Tryz.func155 19 [.tmp 4] Tryz.results155 ?_
 try refine xst ?_
 refine zas (fun k:Nat=>⟨[(8,I .i64 k),(7,I .i64 l.length),(1,.clo (.func 156) [] [.ptr 0 0 0,.ptr 2 0 0,.ptr 3 0 0]),(0,.c (.sl 2 (l.map zaz)))],[(0,.blk 224 [.clo (.func 153) [] [.ptr 1 0 0,.ptr 2 0 0]]),(1,.blk 22 [.c (.sl 1 (R.map zac))]),(2,.blk 24 (z6v f)),(3,.blk 41 [I .i64 c.x,I .i64 c.y])],4⟩) (fun k:Nat=>k≤l.length∧∀j (hj:j<l.length),j<k→znd R f c l[j]=false) (fun k:Nat=>l.length-k) (0) (⟨Nat.zero_le _,fun j _ h=>absurd h (Nat.not_lt_zero _)⟩) (To.mk [0,1,2,3] rfl rfl (by decide) ?_ ?_) ?_
 ·simp(etaStruct := .none)only[push_cast,zab,seval]
 ·simp(etaStruct := .none)only[push_cast,zab,seval]
 rintro k ⟨hk,hno⟩
 try refine xst ?_
 refine cI (fun h1 => ?_) fun h1 => ?_
 ·have hlt:k<l.length:=by omega
  have hnk:=hn _ (za9 l k hlt)
  try refine xz2 (gd hlt) zao ?_
  refine caM [0,1,2,3] (ygs f R c (l.getD k default) hf hnk.1 hc hr hR hnk.2) ?_
  try refine xz2 (gd hlt) zao ?_
  refine cI (fun h2 => ?_) fun h2 => ?_
  ·have e:=zdc (znd R f c) l k hlt (by rw[←zad l k hlt];exact h2) hno
   rw[e]
   try refine xz2 (gd hlt) zao ?_
   refine zco [0,1,2,3] rfl rfl (by decide) ⟨?_,?_,?_,?_,trivial⟩ trivial ?_<;>simp(etaStruct := .none)only[push_cast,zab,seval]
  ·have hno2:∀j (hj:j<l.length),j<k+1→znd R f c l[j]=false:=fun j hj h=>by
    rcases Nat.lt_or_ge j k with h3|h3
    ·exact hno j hj h3
    ·obtain rfl:j=k:=by omega
     rw[←zad l j hj];exact h2
   try refine xz2 (gd hlt) zao ?_
   refine⟨k+1,⟨by omega,hno2⟩,by omega,To.mk [0,1,2,3] rfl rfl (by decide) ?_ ?_⟩
   ·(try(refine xz2 (gd hlt) zao ?_;try exact xtI))
   ·(try(refine xz2 (gd hlt) zao ?_;try exact xtI))
 ·have e:=zcs (znd R f c) l (fun j hj=>hno j hj (by omega))
  rw[e]
  try refine xst ?_
  refine zco [0,1,2,3] rfl rfl (by decide) ⟨?_,?_,?_,?_,trivial⟩ trivial ?_<;>simp(etaStruct := .none)only[push_cast,zab,seval]
theorem z2f {α : Type} [Inhabited α] {p : α → Bool} {l:List α} {x : α} (h:l.find? p=some x):∃i:Nat,ze4 p l=(i:Int)∧i<l.length∧l.getD i default=x:=by
 rw[List.find?_eq_some_iff_getElem]at h
 obtain⟨h1,i,hi,rfl,h2⟩:=h
 exact⟨i,zdc p l i hi h1 (fun j hj hji=>by simpa using h2 j hji),hi,zad _ _ hi⟩
theorem z33 {f:Fld} {a:Cel} {R:List Int} (hf:zbp f=0) (ha:inF f a=true) (hpa:zag f a≠1) (hR:zai f [a] R) {n:Cel} (hn:inF f n=true) : -1≤R.getD (zau f n) default∧R.getD (zau f n) default≤4800:=by
 obtain⟨W,H,s⟩:=yc5 (b:=n) hf ha hpa hR
 have hnL:=(zbr s.w s.h s.w0 hf hn).2
 have h1:=s.r.low _ hnL
 refine⟨h1,?_⟩
 rcases Int.lt_or_le (R.getD (zau f n) default) 0 with h|h
 ·omega
 ·have h2:=((s.end hf ha hn).2 h).1
  have h3:=(z0y s (za8 hf ha).2.2.2.2 _ hnL).2
  omega
theorem z9j (f:Fld) (a b:Cel) (hl:f.p.length≤9223372036854775807) (R:List Int) (hR:zai f [a] R):Spec Tryz.prog 123 [znh f,zem a,zem b] [] (.tup [.c (.sl 2 ((if zfw R f a b=0 then zvb R f a b else []).map zaz)),I .i64 (zvc R f a b),I .i64 (zfw R f a b)]) []:=by
 have hE6:zbp f≠0→zfw R f a b=zbp f:=fun h=>by unfold zfw;rw[if_pos h]
 refine spB Tryz.func123 79 [.tmp 6,.tmp 7,.tmp 8] Tryz.results123 ?_
 try refine xst ?_
 refine caP (zqa f hl) ?_
 try refine xst ?_
 refine cI (fun h1 => ?_) fun h1 => ?_
 ·have e:=hE6 h1
  have e2:zvc R f a b=0:=by unfold zvc;rw[if_neg (by rw[e];exact h1)]
  have e3:(if zfw R f a b=0 then zvb R f a b else []) = []:=if_neg (by rw[e];exact h1)
  rw[e3,e2,e]
  try refine xst ?_
  exact xrz rfl
 ·have hf:=h1
  try refine xst ?_
  refine caP (zyw f a hf) ?_
  try refine xst ?_
  refine gcP (fun hcc=>zyw f b hf) ?_
  try refine xst ?_
  refine cI (fun h2 => ?_) fun h2 => ?_
  ·have e:zfw R f a b=7:=by
    unfold zfw
    rw[if_neg (by simp[hf]),if_pos]
    rintro⟨k1,k2⟩
    rw[k1,k2]at h2
    simp at h2
   have e2:zvc R f a b=0:=by unfold zvc;rw[if_neg (by rw[e];decide)]
   have e3:(if zfw R f a b=0 then zvb R f a b else []) = []:=if_neg (by rw[e];decide)
   rw[e3,e2,e]
   try refine xst ?_
   exact xrz rfl
  ·obtain⟨ha,hb⟩:inF f a=true∧inF f b=true:=by simpa using h2
   try refine xst ?_
   refine caP (zjw f a hf ha) ?_
   try refine xst ?_
   refine gcP (fun hcc=>zjw f b hf hb) ?_
   try refine xst ?_
   refine cI (fun h3 => ?_) fun h3 => ?_
   ·have e:zfw R f a b=9:=by
     unfold zfw
     rw[if_neg (by simp[hf]),if_neg (fun h=>h ⟨ha,hb⟩),if_pos h3]
    have e2:zvc R f a b=0:=by unfold zvc;rw[if_neg (by rw[e];decide)]
    have e3:(if zfw R f a b=0 then zvb R f a b else []) = []:=if_neg (by rw[e];decide)
    rw[e3,e2,e]
    try refine xst ?_
    exact xrz rfl
   ·obtain⟨hpa,hpb⟩:=h3
    have hRl:∃W H,Srch f a b R W H:=yc5 hf ha hpa hR
    obtain⟨W,H,s⟩:=hRl
    have hbF:zau f b<R.length:=by rw[s.r.len];exact(zbr s.w s.h s.w0 hf hb).2
    have hpx:=za8 hf ha
    try refine xst ?_
    refine zgd [3] (Spec.hand 0 (z6t f [a] R hR hl (by simp)) (Nat.zero_le _) rfl (by exact WkL.refl _) rfl) (WkL.refl _) rfl (by decide) (by simp[zcd]) ?_
    try refine xst ?_
    refine zbv (zzt f R b hf hb hbF) (WkL.refl _) rfl ?_
    try refine xst ?_
    refine cI (fun h4 => ?_) fun h4 => ?_
    ·have e:zfw R f a b=6:=by
      unfold zfw
      rw[if_neg (by simp[hf]),if_neg (fun h=>h ⟨ha,hb⟩),if_neg (fun h=>by rcases h with h|h;exact hpa h;exact hpb h),if_pos h4]
     have e2:zvc R f a b=0:=by unfold zvc;rw[if_neg (by rw[e];decide)]
     have e3:(if zfw R f a b=0 then zvb R f a b else []) = []:=if_neg (by rw[e];decide)
     rw[e3,e2,e]
     try refine xst ?_
     exact xrz rfl
    ·have hE:zfw R f a b=0:=by
      unfold zfw
      rw[if_neg (by simp[hf]),if_neg (fun h=>h ⟨ha,hb⟩),if_neg (fun h=>by rcases h with h|h;exact hpa h;exact hpb h),if_neg (by omega)]
     have e2:zvc R f a b=R.getD (zau f b) default:=if_pos hE
     rw[e2,hE,if_pos rfl]
     have hRb:=z33 hf ha hpa hR hb
     try refine xst ?_
     refine zas (fun x:Nat × Cel × List Cel=>⟨[(14,.ptr 5 0 0),(13,.own 6),(12,.ptr 0 0 0),(5,.ptr 4 0 0),(4,.ptr 3 0 0),(3,.ptr 2 0 0)],[(0,.blk 224 [.clo (.func 153) [] [.ptr 1 0 0,.ptr 2 0 0]]),(1,.blk 22 [.c (.sl 1 (R.map zac))]),(2,.blk 24 (z6v f)),(3,.blk 41 [I .i64 a.x,I .i64 a.y]),(4,.blk 41 [I .i64 b.x,I .i64 b.y]),(5,.blk 41 [I .i64 x.2.1.x,I .i64 x.2.1.y]),(6,.row 41 2 (x.2.2.map zaz))],7⟩) (fun x:Nat × Cel × List Cel=>inF f x.2.1=true∧0≤R.getD (zau f x.2.1) default∧R.getD (zau f x.2.1) default≤x.1∧x.2.2++zq4 R f a x.1 x.2.1=b::zq4 R f a (R.getD (zau f b) default).toNat b∧x.2.2.length+x.1≤4801) (fun x:Nat × Cel × List Cel=>x.1) (((R.getD (zau f b) default).toNat,b,[b])) (⟨hb,by simp only;omega,by simp only;omega,rfl,by simp only[List.length_singleton];omega⟩) (To.mk [5,4,0,1,2,7,6] rfl rfl (by decide) ?_ ?_) ?_
     ·(try(refine xz1 zao ?_;try exact xtI))
     ·simp(etaStruct := .none)only[push_cast,zab,seval]
     rintro⟨N,c,out⟩ ⟨hc,hc0,hcN,hway,hlen⟩
     simp only at hc hc0 hcN hway hlen
     try refine xst ?_
     refine cI (fun h5 => ?_) fun h5 => ?_
     ·have hca:c≠a:=cel_ne.1 (fun h=>by rcases h5 with h5|h5;exact h5 h.1;exact h5 h.2)
      have hci:=inF_iff.1 hc
      have hfo:=zba hf
      have hwc:=zva s hf hpa hc hc0
      have hrk:zag f c≠1:=fun h=>by unfold zc5 at hwc;rw[if_pos hc,if_pos h]at hwc;simp at hwc
      obtain⟨g1,g2,g3,g4,g5,g6⟩:=zwk s.w s.h s.w0 hf s.l s.r ha hc hca hc0
      have hkv:=zuh (zag f c)
      obtain⟨M,rfl⟩:∃M,N=M+1:=⟨N-1,by omega⟩
      obtain⟨ix,hix,hixl,hixe⟩:=z2f g1
      rw[zq4,if_neg hca]at hway
      try refine xz4 hix (gd hixl) hixe zao ?_
      refine caP (zs6 f c hf (by omega) (by omega)) ?_
      try refine xz4 hix (gd hixl) hixe zao ?_
      refine caM [0,1,2,5] (ygw f R c (zb0 f c) (by have:=List.length_filter_le (inF f) (zaf c);rw[show (zaf c).length=4 from rfl]at this;unfold zb0;omega) hf hc hrk s.r.len (fun n hn=>by have h1:=(List.mem_filter.1 hn).2;exact⟨h1,z33 hf ha hpa hR h1⟩)) ?_
      try refine xz4 hix (gd hixl) hixe zao ?_
      refine⟨(M,zl9 R f c,out ++ [zl9 R f c]),⟨g3,g5,by simp only;omega,by simp only;rw[List.append_assoc];exact hway,by simp only[List.length_append,List.length_singleton];omega⟩,by simp only;omega,To.mk [0,1,2,3,4,7,9] rfl rfl (by decide) ?_ ?_⟩
      ·(iterate 2((try simp(etaStruct := .none)only[push_cast,zab,seval,List.map_append,zaz]);(try(refine xsu ?_;try exact xtI))))
      ·(try(refine xz4 hix (gd hixl) hixe zao ?_;try exact xtI))
     ·have hca:c=a:=Decidable.byContradiction fun h=>cel_ne.2 h h5
      have hout:out=b::zq4 R f a (R.getD (zau f b) default).toNat b:=by
       have e0:zq4 R f a N c = []:=by
        cases N with
        | zero=>rfl
        | succ N=>rw[zq4,if_pos hca]
       rw[←hway,e0,List.append_nil]
      have hov:out.reverse=zvb R f a b:=by unfold zvb;rw[hout]
      try refine xz1 hov ?_
      refine caM [6] (z3p out (by omega)) ?_
      try refine xz1 hov ?_
      refine zbv (zzt f R b hf hb hbF) (WkL.refl _) rfl ?_
      try refine xz1 hov ?_
      exact xrz rfl
end Go.Proofs.YtbapdgmcndgieaaGreat
namespace Go.Proofs.YtbapdgmcndgieaaGreat
set_option linter.all false
open Go.RowKit
set_option maxRecDepth 100000
def zxy (f:Fld) (WR:Cel→List Int) (a b:Cel):List Cel:=if zfw (WR a) f a b=0 then zvb (WR a) f a b else []
theorem ydb (f:Fld):∃WR:Cel→List Int,∀a,zai f [a] (WR a):=⟨fun a=>Classical.choose (zxb f [a]),fun a=>Classical.choose_spec (zxb f [a])⟩
def zkr (l:List Gop) (i:Int):Option Gop:=l.find? fun g=>decide (g.id=i)
def zre (t:Trp) (c:Cel):Trp:={ t with c:=c }
def zoz (f:Fld) (WR:Cel→List Int) (l:List Gop) (ts:List Trp) (t:Trp):Option Cel:=match zkr l t.id with
 | none=>none
 | some g=>if (zxy f WR t.c g.to).length<2∨(ts.any fun o=>decide (o.c=(zxy f WR t.c g.to).getD 1 default))=true then none else some ((zxy f WR t.c g.to).getD 1 default)
def zd3 (f:Fld) (WR:Cel→List Int) (l:List Gop) (s:List Trp × List Int) (i:Nat):List Trp × List Int:=match zoz f WR l s.1 (s.1.getD i default)with
 | none=>s
 | some c=>(s.1.set i (zre (s.1.getD i default) c),s.2 ++ [(s.1.getD i default).id])
def zd4 (f:Fld) (WR:Cel→List Int) (l:List Gop) (ts:List Trp) (k:Nat):List Trp × List Int:=(List.range k).foldl (zd3 f WR l) (ts,[])
theorem zie (f:Fld) (WR:Cel→List Int) (l:List Gop) (ts:List Trp):zd4 f WR l ts 0=(ts,[]):=rfl
theorem zf3 (f:Fld) (WR:Cel→List Int) (l:List Gop) (ts:List Trp) (k:Nat):zd4 f WR l ts (k+1)=zd3 f WR l (zd4 f WR l ts k) k:=by
 unfold zd4;rw[List.range_succ,List.foldl_append];rfl
theorem zyo (f:Fld) (WR:Cel→List Int) (l:List Gop) (s:List Trp × List Int) (i:Nat):(zd3 f WR l s i).1.length=s.1.length∧(zd3 f WR l s i).2.length≤s.2.length+1:=by
 unfold zd3
 split
 ·exact⟨rfl,by omega⟩
 ·simp
theorem zhg (f:Fld) (WR:Cel→List Int) (l:List Gop) (ts:List Trp):∀k,(zd4 f WR l ts k).1.length=ts.length∧(zd4 f WR l ts k).2.length≤k
 | 0=>⟨rfl,Nat.le_refl _⟩
 | k+1=>by
  rw[zf3]
  have h1:=zhg f WR l ts k
  have h2:=zyo f WR l (zd4 f WR l ts k) k
  omega
def zew (f:Fld) (WR:Cel→List Int) (l:List Gop) (ts:List Trp):List Trp × List Int:=zd4 f WR l ts ts.length
def zm9 (c:Cel):List Trp→Nat
 | []=>0
 | t::r=>(if t.c=c then 1 else 0)+zm9 c r
theorem zqj (c:Cel):∀l,zm9 c l≤l.length
 | []=>Nat.le_refl _
 | t::r=>by have:=zqj c r;rw[zm9,List.length_cons];split<;>omega
theorem zm0 (c:Cel) (m:List Trp):∀l,zm9 c (l++m)=zm9 c l+zm9 c m
 | []=>by simp[zm9]
 | t::r=>by rw[List.cons_append,zm9,zm9,zm0 c m r];omega
theorem zxm (c:Cel) (t:Trp):∀(l:List Trp) (i:Nat),i<l.length→zm9 c (l.set i t)+(if (l.getD i default).c=c then 1 else 0)=zm9 c l+(if t.c=c then 1 else 0)
 | [],i,h=>by simp at h
 | a::r,0,_=>by rw[List.set_cons_zero,zm9,zm9,List.getD_cons_zero];omega
 | a::r,i+1,h=>by
  have:=zxm c t r i (by simpa using h)
  rw[List.set_cons_succ,zm9,zm9,List.getD_cons_succ];omega
theorem zxn (c:Cel):∀l:List Trp,0<zm9 c l↔(l.any fun o=>decide (o.c=c))=true
 | []=>by simp[zm9]
 | t::r=>by
  rw[zm9,List.any_cons]
  have:=zxn c r
  by_cases h:t.c=c
  ·simp[h];omega
  ·simp only[h,if_false,decide_false,Bool.false_or,Nat.zero_add];exact this
def CntM (ts:List Trp) (es:List (List Int × Int)):Prop:=∀x y:Int,zdk [x,y] es=(zm9 ⟨x,y⟩ ts:Int)
theorem CntM.add {ts:List Trp} {es:List (List Int × Int)} (h:CntM ts es) (t:Trp):CntM (ts ++ [t]) (zhe [t.c.x,t.c.y] (zdk [t.c.x,t.c.y] es+1) es):=by
 intro x y
 rw[zcq,zm0,zm9,zm9]
 obtain⟨i,o,kd,⟨cx,cy⟩,li,lo⟩:=t
 simp only
 by_cases e:x=cx∧y=cy
 ·obtain⟨rfl,rfl⟩:=e
  rw[if_pos rfl,if_pos rfl,h];omega
 ·rw[if_neg (by simpa using e),if_neg (fun he=>e (by cases he;exact⟨rfl,rfl⟩)),h];omega
theorem CntM.move {ts:List Trp} {es:List (List Int × Int)} (h:CntM ts es) {i:Nat} (hi:i<ts.length) (c:Cel) :
 CntM (ts.set i (zre (ts.getD i default) c)) (zhe [c.x,c.y] (zdk [c.x,c.y] (zhe [(ts.getD i default).c.x,(ts.getD i default).c.y] (zdk [(ts.getD i default).c.x,(ts.getD i default).c.y] es-1) es)+1) (zhe [(ts.getD i default).c.x,(ts.getD i default).c.y] (zdk [(ts.getD i default).c.x,(ts.getD i default).c.y] es-1) es)):=by
 intro x y
 have hs:=zxm ⟨x,y⟩ (zre (ts.getD i default) c) ts i hi
 obtain⟨cx,cy⟩:=c
 have e2:(zre (ts.getD i default) ⟨cx,cy⟩).c=⟨cx,cy⟩:=rfl
 rw[e2]at hs
 rcases ho:(ts.getD i default).c with ⟨ox,oy⟩
 rw[ho]at hs
 simp only at hs ⊢
 have k1:(([x,y]:List Int) = [cx,cy])=((⟨cx,cy⟩:Cel)=⟨x,y⟩):=by
  apply propext;constructor<;>intro h<;>cases h<;>rfl
 have k2:(([x,y]:List Int) = [ox,oy])=((⟨ox,oy⟩:Cel)=⟨x,y⟩):=by
  apply propext;constructor<;>intro h<;>cases h<;>rfl
 have k3:(([cx,cy]:List Int) = [ox,oy])=((⟨ox,oy⟩:Cel)=⟨cx,cy⟩):=by
  apply propext;constructor<;>intro h<;>cases h<;>rfl
 have h':∀x y:Int,zdk [x,y] es=(zm9 ⟨x,y⟩ ts:Int):=h
 rw[zcq,zcq,zcq]
 simp only[k1,k2,k3,h']
 by_cases a1:(⟨cx,cy⟩:Cel)=⟨x,y⟩
 ·have e3:x=cx∧y=cy:=by cases a1;exact⟨rfl,rfl⟩
  obtain⟨rfl,rfl⟩:=e3
  rw[if_pos rfl]at hs ⊢
  by_cases a2:(⟨ox,oy⟩:Cel)=⟨x,y⟩
  ·have e4:ox=x∧oy=y:=by cases a2;exact⟨rfl,rfl⟩
   obtain⟨rfl,rfl⟩:=e4
   rw[if_pos rfl]at hs ⊢;omega
  ·rw[if_neg a2]at hs
   rw[if_neg a2];omega
 ·rw[if_neg a1]at hs ⊢
  by_cases a2:(⟨ox,oy⟩:Cel)=⟨x,y⟩
  ·have e4:ox=x∧oy=y:=by cases a2;exact⟨rfl,rfl⟩
   obtain⟨rfl,rfl⟩:=e4
   rw[if_pos rfl]at hs ⊢;omega
  ·rw[if_neg a2]at hs ⊢;omega
end Go.Proofs.YtbapdgmcndgieaaGreat
namespace Go.Proofs.YtbapdgmcndgieaaGreat
set_option linter.all false
open Go.RowKit
set_option maxRecDepth 100000
set_option maxHeartbeats 2000000
abbrev ykq (g:Gop):AV := .agg [I .i64 g.id,I .i64 g.to.x,I .i64 g.to.y]
def zzg (t:Trp) (g:Gop):Bool:=decide (g.id=t.id)
theorem ye7 (ts:List Trp) (i:Nat) (hi:i<ts.length) (g:Gop):Spec Tryz.prog 174 [ykq g,.ptr 0 0 0] [.blk 241 [.ptr 1 i 0],.row 92 7 (ts.map zaw)] (B (zzg (ts.getD i default) g)) [.blk 241 [.ptr 1 i 0],.row 92 7 (ts.map zaw)]:=by
 refine spB Tryz.func174 11 [.tmp 3] Tryz.results174 ?_
 try refine xz2 (gd hi) zae ?_
 (try(refine⟨by kernel_rfl,?_⟩))
 try refine xz2 (gd hi) zae ?_
 refine zco [0,1] rfl rfl (by decide) ⟨?_,?_,trivial⟩ trivial ?_<;>simp(etaStruct := .none)only[push_cast,zab,seval,zzg]
theorem yfv (ts:List Trp) (i:Nat) (hi:i<ts.length)(l:List Gop) (hl:l.length≤1000000):Spec Tryz.prog 173 [.c (.sl 3 (l.map zc8)),.clo (.func 174) [] [.ptr 0 0 0]] ([.blk 241 [.ptr 1 i 0],.row 92 7 (ts.map zaw)]) (I .i64 (ze4 (zzg (ts.getD i default)) l)) ([.blk 241 [.ptr 1 i 0],.row 92 7 (ts.map zaw)]):=by
 refine spB Tryz.func173 19 [.tmp 4] Tryz.results173 ?_
 try refine xst ?_
 refine zas (fun k:Nat=>⟨[(8,I .i64 k),(7,I .i64 l.length),(1,.clo (.func 174) [] [.ptr 0 0 0]),(0,.c (.sl 3 (l.map zc8)))],[(0,.blk 241 [.ptr 1 i 0]),(1,.row 92 7 (ts.map zaw))],2⟩) (fun k:Nat=>k≤l.length∧∀j (hj:j<l.length),j<k→(zzg (ts.getD i default)) l[j]=false) (fun k:Nat=>l.length-k) (0) (⟨Nat.zero_le _,fun j _ h=>absurd h (Nat.not_lt_zero _)⟩) (To.mk [0,1] rfl rfl (by decide) ?_ ?_) ?_
 ·simp(etaStruct := .none)only[push_cast,zab,seval]
 ·simp(etaStruct := .none)only[push_cast,zab,seval]
 rintro k ⟨hk,hno⟩
 try refine xst ?_
 refine cI (fun h1 => ?_) fun h1 => ?_
 ·have hlt:k<l.length:=by omega
  try refine xz2 (gd hlt) zob ?_
  refine caM [0,1] (ye7 ts i hi (l.getD k default)) ?_
  try refine xz2 (gd hlt) zob ?_
  refine cI (fun h2 => ?_) fun h2 => ?_
  ·have e:=zdc (zzg (ts.getD i default)) l k hlt (by rw[←zad l k hlt];exact h2) hno
   rw[e]
   try refine xz2 (gd hlt) zob ?_
   refine zco [0,1] rfl rfl (by decide) ⟨?_,?_,trivial⟩ trivial ?_<;>simp(etaStruct := .none)only[push_cast,zab,seval]
  ·have hno2:∀j (hj:j<l.length),j<k+1→(zzg (ts.getD i default)) l[j]=false:=fun j hj h=>by
    rcases Nat.lt_or_ge j k with h3|h3
    ·exact hno j hj h3
    ·obtain rfl:j=k:=by omega
     rw[←zad l j hj];exact h2
   try refine xz2 (gd hlt) zob ?_
   refine⟨k+1,⟨by omega,hno2⟩,by omega,To.mk [0,1] rfl rfl (by decide) ?_ ?_⟩
   ·(try(refine xz2 (gd hlt) zob ?_;try exact xtI))
   ·(try(refine xz2 (gd hlt) zob ?_;try exact xtI))
 ·have e:=zcs (zzg (ts.getD i default)) l (fun j hj=>hno j hj (by omega))
  rw[e]
  try refine xst ?_
  refine zco [0,1] rfl rfl (by decide) ⟨?_,?_,trivial⟩ trivial ?_<;>simp(etaStruct := .none)only[push_cast,zab,seval]
theorem zxd {l:List Gop} {t:Trp} : (zkr l t.id=none∧ze4 (zzg t) l = -1)∨∃(g:Gop) (j:Nat),zkr l t.id=some g∧ze4 (zzg t) l=(j:Int)∧j<l.length∧l.getD j default=g:=by
 cases h:zkr l t.id with
 | none =>
  refine .inl ⟨rfl,?_⟩
  unfold zkr at h
  refine zcs _ l fun j hj => ?_
  have:=List.find?_eq_none.1 h _ (List.getElem_mem hj)
  unfold zzg;simpa using this
 | some g =>
  unfold zkr at h
  obtain⟨j,h1,h2,h3⟩:=z2f (p:=zzg t) (l:=l) (x:=g) h
  exact .inr ⟨g,j,rfl,h1,h2,h3⟩
theorem zex {f:Fld} {WR:Cel→List Int} {l:List Gop} {s:List Trp × List Int} {i:Nat} (h:zoz f WR l s.1 (s.1.getD i default)=none):zd3 f WR l s i=s:=by unfold zd3;rw[h]
theorem zmh {f:Fld} {WR:Cel→List Int} {l:List Gop} {s:List Trp × List Int} {i:Nat} {c:Cel} (h:zoz f WR l s.1 (s.1.getD i default)=some c):zd3 f WR l s i=(s.1.set i (zre (s.1.getD i default) c),s.2 ++ [(s.1.getD i default).id]):=by unfold zd3;rw[h]
theorem znr {f:Fld} {WR:Cel→List Int} {l:List Gop} {ts:List Trp} {t:Trp} {g:Gop} (h:zkr l t.id=some g):zoz f WR l ts t=if (zxy f WR t.c g.to).length<2∨(ts.any fun o=>decide (o.c=(zxy f WR t.c g.to).getD 1 default))=true then none else some ((zxy f WR t.c g.to).getD 1 default):=by unfold zoz;rw[h]
theorem yba (w:Wld) (l:List Gop) (WR:Cel→List Int) (hWR:∀a,zai w.f [a] (WR a)) (hl:w.f.p.length≤9223372036854775807) (hll:l.length≤1000) (hnt:w.troops.length≤100):Spec Tryz.prog 138 [.agg [I .i64 w.f.w,I .i64 w.f.h,.c (.sl 1 (w.f.p.map zac)),.c (.sl 2 (w.bases.map zaz)),.c (.sl 1 (w.stocks.map zac)),.c (.sl 1 (w.mines.map zac)),.own 0,I .i64 w.next,I .i64 w.now],.c (.sl 3 (l.map zc8))] [.row 92 7 (w.troops.map zaw)]
 (.c (.sl 1 ((zew w.f WR l w.troops).2.map zac))) [.row 92 7 ((zew w.f WR l w.troops).1.map zaw)]:=by
 refine spB Tryz.func138 110 [.tmp 4] Tryz.results138 ?_
 (iterate 2((try simp(etaStruct := .none)only[push_cast,seval,zan]);(try(refine xsu ?_;try exact xtI))))
 refine zas (fun x:Nat × List (List Int × Int)=>⟨[(19,I .i64 x.1),(18,I .i64 w.troops.length),(17,.own 0),(5,.map 2),(2,.ptr 1 0 0),(1,.c (.sl 3 (l.map zc8)))],[(0,.row 92 7 (w.troops.map zaw)),(1,.blk 28 [I .i64 w.f.w,I .i64 w.f.h,.c (.sl 1 (w.f.p.map zac)),.c (.sl 2 (w.bases.map zaz)),.c (.sl 1 (w.stocks.map zac)),.c (.sl 1 (w.mines.map zac)),.own 0,I .i64 w.next,I .i64 w.now]),(2,.mp true 2 x.2)],3⟩) (fun x:Nat × List (List Int × Int)=>x.1≤w.troops.length∧CntM (w.troops.take x.1) x.2) (fun x:Nat × List (List Int × Int)=>w.troops.length-x.1) ((0,[])) (⟨Nat.zero_le _,fun _ _=>rfl⟩) (To.mk [0,1,2] rfl rfl (by decide) ?_ ?_) ?_
 ·simp(etaStruct := .none)only[push_cast,zab,seval]
 ·simp(etaStruct := .none)only[push_cast,zab,seval]
 rintro⟨k,es⟩ ⟨hk,hc⟩
 simp only at hk hc
 (iterate 2((try simp(etaStruct := .none)only[push_cast,seval,zan]);(try(refine xsu ?_;try exact xtI))))
 refine cI (fun h1 => ?_) fun h1 => ?_
 ·have hlt:k<w.troops.length:=by omega
  have hca:=hc.add (w.troops.getD k default)
  rw[←zav _ _ hlt]at hca
  have hcb:=hc (w.troops.getD k default).c.x (w.troops.getD k default).c.y
  have hcl:=zqj ⟨(w.troops.getD k default).c.x,(w.troops.getD k default).c.y⟩ (w.troops.take k)
  rw[List.length_take]at hcl
  have hmp:=zmc [(w.troops.getD k default).c.x,(w.troops.getD k default).c.y] es
  (iterate 2((try simp(etaStruct := .none)only[push_cast,seval,zan,zaa _ _ _ hlt,zaw]);(try(refine xsu ?_;try exact xtI))))
  refine zbi [some 23,some 24,some 25,some 26,some 27,some 28,some 29,none] rfl ?_
  intro Oq lq Rq hlq hdq hRq
  subst hlq
  iterate 8(refine za2 fun rq hrq => ?_;(iterate 2((try simp(etaStruct := .none)only[push_cast,seval,hdq,id,zan,zaa _ _ _ hlt,zaw]);(try(refine xsu ?_;try exact xtI))));subst hrq)
  refine zjo ?_
  subst hRq
  clear hdq Oq
  refine zjn (by kernel_rfl) ?_
  (iterate 2((try simp(etaStruct := .none)only[push_cast,seval,zan,zaa _ _ _ hlt,zaw]);(try(refine xsu ?_;try exact xtI))))
  refine⟨(k+1,zhe [(w.troops.getD k default).c.x,(w.troops.getD k default).c.y] (zdk [(w.troops.getD k default).c.x,(w.troops.getD k default).c.y] es+1) es),⟨by simp only;omega,hca⟩,by simp only;omega,To.mk [0,1,2] rfl rfl (by decide) ?_ ?_⟩
  ·(iterate 2((try simp(etaStruct := .none)only[push_cast,seval,zan,zaa _ _ _ hlt,zaw]);(try(refine xsu ?_;try exact xtI))))
  ·(iterate 2((try simp(etaStruct := .none)only[push_cast,seval,zan,zaa _ _ _ hlt,zaw]);(try(refine xsu ?_;try exact xtI))))
 ·obtain rfl:k=w.troops.length:=by omega
  rw[List.take_length]at hc
  (iterate 2((try simp(etaStruct := .none)only[push_cast,seval,zan]);(try(refine xsu ?_;try exact xtI))))
  refine zas (fun x:Nat × List (List Int × Int)=>⟨[(34,I .i64 x.1),(33,I .i64 w.troops.length),(8,.own 3),(5,.map 2),(2,.ptr 1 0 0),(1,.c (.sl 3 (l.map zc8)))],[(0,.row 92 7 ((zd4 w.f WR l w.troops x.1).1.map zaw)),(1,.blk 28 [I .i64 w.f.w,I .i64 w.f.h,.c (.sl 1 (w.f.p.map zac)),.c (.sl 2 (w.bases.map zaz)),.c (.sl 1 (w.stocks.map zac)),.c (.sl 1 (w.mines.map zac)),.own 0,I .i64 w.next,I .i64 w.now]),(2,.mp true 2 x.2),(3,.row 3 1 ((zd4 w.f WR l w.troops x.1).2.map zac))],4⟩) (fun x:Nat × List (List Int × Int)=>x.1≤w.troops.length∧CntM (zd4 w.f WR l w.troops x.1).1 x.2) (fun x:Nat × List (List Int × Int)=>w.troops.length-x.1) ((0,es)) (⟨Nat.zero_le _,hc⟩) ((To.nil 8 3 1 rfl).trans (To.mk [0,1,2,3] rfl rfl (by decide) ?_ ?_)) ?_
  ·simp(etaStruct := .none)only[push_cast,zab,seval,zie,List.map_nil]
  ·simp(etaStruct := .none)only[push_cast,zab,seval]
  rintro⟨k,em⟩ ⟨hk,hm⟩
  simp only at hk hm
  have hln:=zhg w.f WR l w.troops k
  have hsk:=zf3 w.f WR l w.troops k
  obtain⟨S,hS⟩:∃S,S=zd4 w.f WR l w.troops k:=⟨_,rfl⟩
  rw[←hS]at hm hln hsk
  (iterate 2((try simp(etaStruct := .none)only[push_cast,seval,zan,←hS,hln.1]);(try(refine xsu ?_;try exact xtI))))
  refine cI (fun h2 => ?_) fun h2 => ?_
  ·have hlt:k<S.1.length:=by omega
   (iterate 2((try simp(etaStruct := .none)only[push_cast,seval,zan,←hS,hln.1,zaa _ _ _ hlt,zaw]);(try(refine xsu ?_;try exact xtI))))
   refine caM [4,0] (yfv S.1 k hlt l (by omega)) ?_
   (iterate 2((try simp(etaStruct := .none)only[push_cast,seval,zan,←hS,hln.1,zaa _ _ _ hlt,zaw]);(try(refine xsu ?_;try exact xtI))))
   refine cI (fun h3 => ?_) fun h3 => ?_
   ·have hnone:zkr l (S.1.getD k default).id=none:=by
     rcases zxd (l:=l) (t:=S.1.getD k default)with ⟨h,_⟩|⟨_,j,_,h,_⟩
     ·exact h
     ·rw[h]at h3;omega
    have hms:zd3 w.f WR l S k=S:=zex (by unfold zoz;rw[hnone])
    (iterate 2((try simp(etaStruct := .none)only[push_cast,seval,zan,←hS,hln.1,zaa _ _ _ hlt,zaw]);(try(refine xsu ?_;try exact xtI))))
    refine⟨(k+1,em),⟨by simp only;omega,by simp only;rw[hsk,hms];exact hm⟩,by simp only;omega,To.mk [0,1,2,3] rfl rfl (by decide) ?_ ?_⟩
    ·(try(refine xz2 hsk hms ?_;try exact xtI))
    ·(iterate 2((try simp(etaStruct := .none)only[push_cast,seval,zan,←hS,hln.1,zaa _ _ _ hlt,zaw]);(try(refine xsu ?_;try exact xtI))))
   ·obtain⟨g,j,hg,hj,hjl,hge⟩:∃(g:Gop) (j:Nat),zkr l (S.1.getD k default).id=some g∧ze4 (zzg (S.1.getD k default)) l=(j:Int)∧j<l.length∧l.getD j default=g:=by
     rcases zxd (l:=l) (t:=S.1.getD k default)with ⟨_,h⟩|h
     ·rw[h]at h3;omega
     ·exact h
    obtain⟨wl,hwl⟩:∃wl,wl=zxy w.f WR (S.1.getD k default).c g.to:=⟨_,rfl⟩
    have hwy:(if zfw (WR (S.1.getD k default).c) w.f (S.1.getD k default).c g.to=0 then zvb (WR (S.1.getD k default).c) w.f (S.1.getD k default).c g.to else [])=wl:=hwl.symm
    have hst:=znr (f:=w.f) (WR:=WR) (ts:=S.1) hg
    rw[←hwl]at hst
    rcases Nat.lt_or_ge wl.length 2 with hA|hB
    ·have hms:zd3 w.f WR l S k=S:=zex (by rw[hst,if_pos (.inl hA)])
     have hAg:(wl.map zaz).getD 1 [] = []:=by rw[List.getD_eq_getElem?_getD,List.getElem?_eq_none (by rw[List.length_map];omega)];rfl
     have hAl:((wl.length:Int)<2)=True:=eq_true (by omega)
     (iterate 2((try simp(etaStruct := .none)only[push_cast,seval,zan,←hS,hln.1,zaa _ _ _ hlt,zaw,hj,zaa _ _ _ hjl,hge,zc8]);(try(refine xsu ?_;try exact xtI))))
     refine zbi [some 47,some 48,some 49,some 50,some 51,some 52,some 53,some 54,some 55,some 56,some 57,some 58,some 46,some 59,some 60,some 61,some 12,some 13,some 14] rfl ?_
     intro Oq lq Rq hlq hdq hRq
     subst hlq
     iterate 11(refine za2 fun rq hrq => ?_;(iterate 2((try simp(etaStruct := .none)only[push_cast,seval,hdq,id,zan,←hS,hln.1,zaa _ _ _ hlt,zaw,hj,zaa _ _ _ hjl,hge,zc8]);(try(refine xsu ?_;try exact xtI))));subst hrq)
     refine za2 fun rq hrq => ?_
     (iterate 2((try simp(etaStruct := .none)only[push_cast,seval,hdq,id,zan,←hS,hln.1,zaa _ _ _ hlt,zaw,hj,zaa _ _ _ hjl,hge,zc8]);(try(refine xsu ?_;try exact xtI))))
     refine zct (z1b w.f (S.1.getD k default).c g.to hl (WR (S.1.getD k default).c) (hWR _)) (WkL.refl _) ?_
     rw[hwy]
     (iterate 2((try simp(etaStruct := .none)only[push_cast,seval,hdq,id,zan,←hS,hln.1,zaa _ _ _ hlt,zaw,hj,zaa _ _ _ hjl,hge,zc8]);(try(refine xsu ?_;try exact xtI))))
     subst hrq
     iterate 7(refine za2 fun rq hrq => ?_;(iterate 2((try simp(etaStruct := .none)only[push_cast,seval,hdq,id,zan,←hS,hln.1,zaa _ _ _ hlt,zaw,hj,zaa _ _ _ hjl,hge,zc8]);(try(refine xsu ?_;try exact xtI))));subst hrq)
     refine zjo ?_
     subst hRq
     clear hdq Oq
     refine zjn (by kernel_rfl) ?_
     (iterate 2((try simp(etaStruct := .none)only[push_cast,seval,zan,←hS,hln.1,zaa _ _ _ hlt,zaw,hAg,hAl,List.take_nil,List.map_nil]);(try(refine xsu ?_;try exact xtI))))
     refine zal (fun h4 => ?_) (fun h4 => ?_)
     ·(iterate 2((try simp(etaStruct := .none)only[push_cast,seval]);(try(refine xsu ?_;try exact xtI))))
      refine⟨(k+1,em),⟨by simp only;omega,by simp only;rw[hsk,hms];exact hm⟩,by simp only;omega,To.mk [0,1,2,3] rfl rfl (by decide) ?_ ?_⟩
      ·(try(refine xz2 hsk hms ?_;try exact xtI))
      ·(iterate 2((try simp(etaStruct := .none) (maxSteps:=1000000)only[push_cast,zab,seval]);(try(refine xsu ?_;try exact xtI))))
     ·simp at h4
    have hB1:1<wl.length:=by omega
    have hBl:((wl.length:Int)<2)=False:=eq_false (by omega)
    have hE0:zfw (WR (S.1.getD k default).c) w.f (S.1.getD k default).c g.to=0:=by
     rcases Decidable.em (zfw (WR (S.1.getD k default).c) w.f (S.1.getD k default).c g.to=0)with h|h
     ·exact h
     ·rw[hwl]at hB1;unfold zxy at hB1;rw[if_neg h]at hB1;simp at hB1
    have hcm:=hm (wl.getD 1 default).x (wl.getD 1 default).y
    have hcl:=zqj ⟨(wl.getD 1 default).x,(wl.getD 1 default).y⟩ S.1
    have hanyc:=zxn ⟨(wl.getD 1 default).x,(wl.getD 1 default).y⟩ S.1
    (iterate 2((try simp(etaStruct := .none)only[push_cast,seval,zan,←hS,hln.1,zaa _ _ _ hlt,zaw,hj,zaa _ _ _ hjl,hge,zc8,zaa _ _ _ hB1,zaz,hBl,hE0]);(try(refine xsu ?_;try exact xtI))))
    refine zbi [some 47,some 48,some 49,some 50,some 51,some 52,some 53,some 54,some 55,some 56,some 57,some 58,some 46,some 59,some 60,some 61,some 12,some 13,some 14] rfl ?_
    intro Oq lq Rq hlq hdq hRq
    subst hlq
    iterate 11(refine za2 fun rq hrq => ?_;(iterate 2((try simp(etaStruct := .none)only[push_cast,seval,hdq,id,zan,←hS,hln.1,zaa _ _ _ hlt,zaw,hj,zaa _ _ _ hjl,hge,zc8,zaa _ _ _ hB1,zaz,hBl,hE0]);(try(refine xsu ?_;try exact xtI))));subst hrq)
    refine za2 fun rq hrq => ?_
    (iterate 2((try simp(etaStruct := .none)only[push_cast,seval,hdq,id,zan,←hS,hln.1,zaa _ _ _ hlt,zaw,hj,zaa _ _ _ hjl,hge,zc8,zaa _ _ _ hB1,zaz,hBl,hE0]);(try(refine xsu ?_;try exact xtI))))
    refine caP (z1b w.f (S.1.getD k default).c g.to hl (WR (S.1.getD k default).c) (hWR _)) ?_
    rw[hwy]
    (iterate 2((try simp(etaStruct := .none)only[push_cast,seval,hdq,id,zan,←hS,hln.1,zaa _ _ _ hlt,zaw,hj,zaa _ _ _ hjl,hge,zc8,zaa _ _ _ hB1,zaz,hBl,hE0]);(try(refine xsu ?_;try exact xtI))))
    subst hrq
    iterate 7(refine za2 fun rq hrq => ?_;(iterate 2((try simp(etaStruct := .none)only[push_cast,seval,hdq,id,zan,←hS,hln.1,zaa _ _ _ hlt,zaw,hj,zaa _ _ _ hjl,hge,zc8,zaa _ _ _ hB1,zaz,hBl,hE0]);(try(refine xsu ?_;try exact xtI))));subst hrq)
    refine zjo ?_
    subst hRq
    clear hdq Oq
    refine zjn (by kernel_rfl) ?_
    (iterate 2((try simp(etaStruct := .none)only[push_cast,seval,zan,←hS,hln.1,zaa _ _ _ hlt,zaw,hj,zaa _ _ _ hjl,hge,zc8,zaa _ _ _ hB1,zaz,hBl,hE0]);(try(refine xsu ?_;try exact xtI))))
    refine cI (fun h4 => ?_) fun h4 => ?_
    ·have hms:zd3 w.f WR l S k=S:=zex (by rw[hst,if_pos (.inr (hanyc.1 (by omega)))])
     (iterate 2((try simp(etaStruct := .none)only[push_cast,seval,zan,←hS,hln.1,zaa _ _ _ hlt,zaw,hj,zaa _ _ _ hjl,hge,zc8,zaa _ _ _ hB1,zaz,hBl,hE0]);(try(refine xsu ?_;try exact xtI))))
     refine⟨(k+1,em),⟨by simp only;omega,by simp only;rw[hsk,hms];exact hm⟩,by simp only;omega,To.mk [0,1,2,3] rfl rfl (by decide) ?_ ?_⟩
     ·(try(refine xz2 hsk hms ?_;try exact xtI))
     ·(iterate 2((try simp(etaStruct := .none)only[push_cast,seval,zan,←hS,hln.1,zaa _ _ _ hlt,zaw,hj,zaa _ _ _ hjl,hge,zc8,zaa _ _ _ hB1,zaz,hBl,hE0]);(try(refine xsu ?_;try exact xtI))))
    ·have hno:¬(S.1.any fun o=>decide (o.c=(wl.getD 1 default)))=true:=fun h=>by have:=hanyc.2 h;omega
     have hms:zd3 w.f WR l S k=(S.1.set k (zre (S.1.getD k default) (wl.getD 1 default)),S.2 ++ [(S.1.getD k default).id]):=zmh (by rw[hst,if_neg (fun h=>by rcases h with h|h;omega;exact hno h)])
     have hmv:=hm.move hlt (wl.getD 1 default)
     have hmp1:=zmc [(S.1.getD k default).c.x,(S.1.getD k default).c.y] em
     have hc1:=hm (S.1.getD k default).c.x (S.1.getD k default).c.y
     have hcl1:=zqj ⟨(S.1.getD k default).c.x,(S.1.getD k default).c.y⟩ S.1
     have hmp2:=zmc [(wl.getD 1 default).x,(wl.getD 1 default).y] (zhe [(S.1.getD k default).c.x,(S.1.getD k default).c.y] (zdk [(S.1.getD k default).c.x,(S.1.getD k default).c.y] em-1) em)
     have hb2 : -1≤zdk [(wl.getD 1 default).x,(wl.getD 1 default).y] (zhe [(S.1.getD k default).c.x,(S.1.getD k default).c.y] (zdk [(S.1.getD k default).c.x,(S.1.getD k default).c.y] em-1) em)∧zdk [(wl.getD 1 default).x,(wl.getD 1 default).y] (zhe [(S.1.getD k default).c.x,(S.1.getD k default).c.y] (zdk [(S.1.getD k default).c.x,(S.1.getD k default).c.y] em-1) em)≤100:=by
      rw[zcq];split<;>omega
     have hgs:∀x:List PV,((S.1.map zaw).set k x).getD k []=x:=fun x=>by
      rw[List.getD_eq_getElem?_getD,List.getElem?_set_self (by rw[List.length_map];exact hlt)];rfl
     (iterate 2((try simp(etaStruct := .none)only[push_cast,seval,zan,←hS,hln.1,zaa _ _ _ hlt,zaw,hj,zaa _ _ _ hjl,hge,zc8,zaa _ _ _ hB1,zaz,hBl,hE0,hgs,List.length_set,List.set_set]);(try(refine xsu ?_;try exact xtI))))
     refine zbi [some 77,some 78,some 79,some 80,some 81,some 82,some 83,some 84,some 85,none] rfl ?_
     intro Oq lq Rq hlq hdq hRq
     subst hlq
     iterate 10(refine za2 fun rq hrq => ?_;(iterate 2((try simp(etaStruct := .none)only[push_cast,seval,hdq,id,zan,←hS,hln.1,zaa _ _ _ hlt,zaw,hj,zaa _ _ _ hjl,hge,zc8,zaa _ _ _ hB1,zaz,hBl,hE0,hgs,List.length_set,List.set_set]);(try(refine xsu ?_;try exact xtI))));subst hrq)
     refine zjo ?_
     subst hRq
     clear hdq Oq
     refine zjn (by kernel_rfl) ?_
     (iterate 2((try simp(etaStruct := .none)only[push_cast,seval,zan,←hS,hln.1,zaa _ _ _ hlt,zaw,hj,zaa _ _ _ hjl,hge,zc8,zaa _ _ _ hB1,zaz,hBl,hE0,hgs,List.length_set,List.set_set]);(try(refine xsu ?_;try exact xtI))))
     refine zbi [some 86,some 87,some 88,some 89,some 90,some 91,none] rfl ?_
     intro Oq lq Rq hlq hdq hRq
     subst hlq
     iterate 7(refine za2 fun rq hrq => ?_;(iterate 2((try simp(etaStruct := .none)only[push_cast,seval,hdq,id,zan,←hS,hln.1,zaa _ _ _ hlt,zaw,hj,zaa _ _ _ hjl,hge,zc8,zaa _ _ _ hB1,zaz,hBl,hE0,hgs,List.length_set,List.set_set]);(try(refine xsu ?_;try exact xtI))));subst hrq)
     refine zjo ?_
     subst hRq
     clear hdq Oq
     refine zjn (by kernel_rfl) ?_
     (iterate 2((try simp(etaStruct := .none)only[push_cast,seval,zan,←hS,hln.1,zaa _ _ _ hlt,zaw,hj,zaa _ _ _ hjl,hge,zc8,zaa _ _ _ hB1,zaz,hBl,hE0,hgs,List.length_set,List.set_set]);(try(refine xsu ?_;try exact xtI))))
     refine zbi [some 92,some 93,some 94,some 95,some 96,some 97,some 98,some 99,some 100,none] rfl ?_
     intro Oq lq Rq hlq hdq hRq
     subst hlq
     iterate 10(refine za2 fun rq hrq => ?_;(iterate 2((try simp(etaStruct := .none)only[push_cast,seval,hdq,id,zan,←hS,hln.1,zaa _ _ _ hlt,zaw,hj,zaa _ _ _ hjl,hge,zc8,zaa _ _ _ hB1,zaz,hBl,hE0,hgs,List.length_set,List.set_set]);(try(refine xsu ?_;try exact xtI))));subst hrq)
     refine zjo ?_
     subst hRq
     clear hdq Oq
     refine zjn (by kernel_rfl) ?_
     (iterate 2((try simp(etaStruct := .none)only[push_cast,seval,zan,←hS,hln.1,zaa _ _ _ hlt,zaw,hj,zaa _ _ _ hjl,hge,zc8,zaa _ _ _ hB1,zaz,hBl,hE0,hgs,List.length_set,List.set_set]);(try(refine xsu ?_;try exact xtI))))
     refine⟨(k+1,zhe [(wl.getD 1 default).x,(wl.getD 1 default).y] (zdk [(wl.getD 1 default).x,(wl.getD 1 default).y] (zhe [(S.1.getD k default).c.x,(S.1.getD k default).c.y] (zdk [(S.1.getD k default).c.x,(S.1.getD k default).c.y] em-1) em)+1) (zhe [(S.1.getD k default).c.x,(S.1.getD k default).c.y] (zdk [(S.1.getD k default).c.x,(S.1.getD k default).c.y] em-1) em)),⟨by simp only;omega,by simp only;rw[hsk,hms];exact hmv⟩,by simp only;omega,To.mk [0,1,2,190] rfl rfl (by decide) ?_ ?_⟩
     ·(iterate 2((try simp(etaStruct := .none)only[push_cast,zab,seval,hsk,hms,List.map_set,List.map_append,zaw,zre,zac]);(try(refine xsu ?_;try exact xtI))))
     ·(iterate 2((try simp(etaStruct := .none)only[push_cast,seval,zan,←hS,hln.1,zaa _ _ _ hlt,zaw,hj,zaa _ _ _ hjl,hge,zc8,zaa _ _ _ hB1,zaz,hBl,hE0,hgs,List.length_set,List.set_set]);(try(refine xsu ?_;try exact xtI))))
  ·obtain rfl:k=w.troops.length:=by omega
   have hmv:zew w.f WR l w.troops=S:=hS.symm
   (iterate 2((try simp(etaStruct := .none)only[push_cast,seval,zan,←hS,hln.1]);(try(refine xsu ?_;try exact xtI))))
   refine zco [0] rfl rfl (by decide) ⟨?_,trivial⟩ trivial ?_<;>simp(etaStruct := .none)only[push_cast,zab,seval,hmv]
end Go.Proofs.YtbapdgmcndgieaaGreat
namespace Go.Proofs.YtbapdgmcndgieaaGreat
set_option linter.all false
open Go.RowKit
set_option maxRecDepth 100000
structure Right (w : Wld) : Prop where
 f:zbp w.f=0
 nb:w.bases.length≤8
 nt:w.troops.length≤100
 sl:w.stocks.length=w.bases.length
 ml:w.mines.length=w.f.p.length
 nx:1≤w.next∧w.next≤1000000
 nw:0≤w.now∧w.now≤1000000
 base:∀i,i<w.bases.length→zbw w.f (w.bases.getD i default)=true∧(0≤w.stocks.getD i default∧w.stocks.getD i default≤1000000)∧∀j,j<i→w.bases.getD j default≠w.bases.getD i default
 mine:∀i,i<w.mines.length→(0≤w.mines.getD i default∧w.mines.getD i default≤1000000)∧(w.mines.getD i default=0∨w.f.p.getD i default=3)
 trp:∀k,k<w.troops.length→TrpOk w (w.troops.getD k default)
 ord:∀j k,j<k→k<w.troops.length→(w.troops.getD j default).id<(w.troops.getD k default).id∧(w.troops.getD j default).c≠(w.troops.getD k default).c
theorem zds {w:Wld} (h:zah w=0):Right w:=by
 obtain⟨h1,h2,h3,h4,h5⟩:=zcb h
 obtain⟨g1,g2,g3,g4⟩:=zla h4
 unfold ze7 at h5
 simp only[Bool.and_eq_true]at h5
 obtain⟨⟨b1,b2⟩,b3⟩:=h5
 rw[zbo]at b1 b2 b3
 refine⟨h1,h2,h3,g1,g2,g3,g4,fun i hi => ?_,fun i hi => ?_,fun k hk=>(ze8 h hk).1,fun j k hjk hk => ?_⟩
 ·have:=b1 i hi
  unfold zhv at this
  simp only[Bool.and_eq_true,within_iff]at this
  obtain⟨⟨a1,a2⟩,a3⟩:=this
  rw[zbo]at a3
  exact⟨a1,a2,fun j hj=>by have:=a3 j hj;simpa using this⟩
 ·have:=b2 i hi
  unfold zi4 at this
  simp only[Bool.and_eq_true,Bool.or_eq_true,within_iff,decide_eq_true_eq]at this
  exact this
 ·have h6:=(ze8 h hk).2
  unfold z4h at h6
  have:=(zbo _ _).1 h6 j hjk
  simp only[Bool.and_eq_true,decide_eq_true_eq,Bool.not_eq_true',decide_eq_false_iff_not]at this
  exact this
theorem Right.e {w:Wld} (h:Right w):zah w=0:=by
 have hb:¬(8<w.bases.length∨100<w.troops.length):=by have:=h.nb;have:=h.nt;omega
 refine zlb h.f hb ?_ ?_
 ·unfold zge
  rw[decide_eq_true h.sl,decide_eq_true h.ml,(within_iff).2 h.nx,(within_iff).2 h.nw];rfl
 ·unfold ze7
  rw[Bool.and_eq_true,Bool.and_eq_true,zbo,zbo,zbo]
  refine⟨⟨fun i hi => ?_,fun i hi => ?_⟩,fun i hi => ?_⟩
  ·obtain⟨a1,a2,a3⟩:=h.base i hi
   unfold zhv
   rw[a1,(within_iff).2 a2,Bool.true_and,Bool.true_and,zbo]
   intro j hj
   rw[decide_eq_false (a3 j hj)];rfl
  ·obtain⟨a1,a2⟩:=h.mine i hi
   unfold zi4
   rw[(within_iff).2 a1,Bool.true_and,Bool.or_eq_true,decide_eq_true_eq,decide_eq_true_eq];exact a2
  ·have ok:=h.trp i hi
   unfold zdj z7v z4h
   rw[(within_iff).2 (by rcases ok.kind with e|e<;>omega),(within_iff).2 ok.id,(within_iff).2 ok.owner,ok.at_,(within_iff).2 ok.life,(within_iff).2 ok.load,Bool.true_and,Bool.true_and,Bool.true_and,Bool.true_and,Bool.true_and,Bool.true_and,zbo]
   intro j hj
   obtain⟨c1,c2⟩:=h.ord j i hj hi
   rw[decide_eq_true c1,decide_eq_false c2];rfl
theorem Right.l {w:Wld} (h:Right w):zdf w:=by
 obtain⟨⟨f1,f2⟩,⟨f3,f4⟩,f5,f6⟩:=zba h.f
 have hm:w.f.w*w.f.h≤40*40:=Int.mul_le_mul f2 f4 (by omega) (by omega)
 have a1:=h.nb;have a2:=h.nt;have a3:=h.sl;have a4:=h.ml
 unfold zdf;omega
theorem Right.places {w:Wld} (h:Right w):w.f.p.length≤1600:=by
 obtain⟨⟨f1,f2⟩,⟨f3,f4⟩,f5,f6⟩:=zba h.f
 have hm:w.f.w*w.f.h≤40*40:=Int.mul_le_mul f2 f4 (by omega) (by omega)
 omega
theorem ziq {w:Wld} {t:Trp} (hk:t.kind=1∨t.kind=2) (hi:1≤t.id∧t.id≤w.next-1) (ho:0≤t.owner∧t.owner≤(w.bases.length:Int)-1) (hg:zbw w.f t.c=true) (hl:1≤t.life∧t.life≤(zbh t.kind).life) (hd:0≤t.load∧t.load≤5*(2-t.kind)):TrpOk w t:=by
 have h:=inF_iff.1 (ground_iff.1 hg).1
 exact⟨hk,hi,ho,hg,h.1,h.2,hl,hd⟩
theorem zjd {α : Type} [Inhabited α] {l:List α} {i:Nat} (v : α) (p:Nat) (hi:i<l.length):(l.set i v).getD p default=if p=i then v else l.getD p default:=by
 by_cases h:p=i
 ·subst h;rw[if_pos rfl,zad _ _ (by simpa using hi)];simp
 ·rw[if_neg h]
  simp only[List.getD_eq_getElem?_getD,List.getElem?_set,if_neg (Ne.symm h)]
theorem zky {α : Type} [Inhabited α] (l:List α) (i:Nat) (hi:i<l.length):l.set i (l.getD i default)=l:=by
 refine List.ext_getElem (by simp) fun j h1 h2 => ?_
 rw[List.getElem_set]
 split
 ·rename_i h;subst h;rw[zad _ _ hi]
 ·rfl
theorem zrn {w:Wld} (h:Right w) (l:List Blw) (hb:∀id,0≤ze5 w l id):Right (zc3 w l):=by
 have hsub:(zi8 w l).length≤w.troops.length:=by
  have:=List.length_filter_le (fun t:Trp=>decide (0<t.life)) (w.troops.map (zdi w l))
  rw[List.length_map]at this;exact this
 have hp:(zi8 w l).Pairwise fun a b=>a.id<b.id∧a.c≠b.c:=by
  refine List.Pairwise.filter _ ?_
  rw[List.pairwise_map,List.pairwise_iff_getElem]
  intro i j hi hj hij
  have:=h.ord i j hij hj
  rw[zad _ _ hi,zad _ _ hj]at this
  exact this
 refine⟨h.f,h.nb,Nat.le_trans hsub h.nt,h.sl,h.ml,h.nx,h.nw,h.base,h.mine,fun k hk => ?_,fun j k hjk hk => ?_⟩
 ·have hk':k<(zi8 w l).length:=hk
  have hm:=za9 _ _ hk'
  obtain⟨h1,h2⟩:=List.mem_filter.1 hm
  obtain⟨t,ht,e⟩:=List.mem_map.1 h1
  obtain⟨q,hq,e2⟩:=mem_getD.1 ht
  have ok:=h.trp q hq
  rw[e2]at ok
  change TrpOk (zc3 w l) ((zi8 w l).getD k default)
  rw[←e]at h2 ⊢
  rw[decide_eq_true_eq]at h2
  have hh:=hb t.id
  have hlf:=ok.life
  refine ziq ok.kind ok.id ok.owner ok.at_ ⟨by omega,?_⟩ ok.load
  change t.life-ze5 w l t.id≤(zbh t.kind).life
  omega
 ·have hj:j<(zi8 w l).length:=Nat.lt_trans hjk hk
  have:=List.pairwise_iff_getElem.1 hp j k hj hk hjk
  change ((zi8 w l).getD j default).id<((zi8 w l).getD k default).id∧((zi8 w l).getD j default).c≠((zi8 w l).getD k default).c
  rw[zad (zi8 w l) _ hj,zad (zi8 w l) _ hk];exact this
end Go.Proofs.YtbapdgmcndgieaaGreat
namespace Go.Proofs.YtbapdgmcndgieaaGreat
set_option linter.all false
open Go.RowKit
set_option maxRecDepth 100000
set_option maxHeartbeats 2000000
def zze (w:Wld) (ts:List Trp):Wld:={ w with troops:=ts }
abbrev ygt (w:Wld) (t:AV):List AV := [I .i64 w.f.w,I .i64 w.f.h,.c (.sl 1 (w.f.p.map zac)),.c (.sl 2 (w.bases.map zaz)),.c (.sl 1 (w.stocks.map zac)),.c (.sl 1 (w.mines.map zac)),t,I .i64 w.next,I .i64 w.now]
theorem ye4 (w:Wld) (hb:w.f.p.length≤1600∧w.bases.length≤8∧w.stocks.length≤8∧w.mines.length≤1600∧w.troops.length≤100):Spec Tryz.prog 137 [zbk w] [] (.agg (ygt w (.own 0))) [.row 92 7 (w.troops.map zaw)]:=by
 refine spB Tryz.func137 26 [.cell 2 28] Tryz.results137 ?_
 try refine xst ?_
 refine caM [] (zbf w.f.p (by omega)) ?_
 try refine xst ?_
 refine caM [] (z3r w.bases (by omega)) ?_
 try refine xst ?_
 refine caM [] (zbf w.stocks (by omega)) ?_
 try refine xst ?_
 (try(refine⟨by kernel_rfl,?_⟩))
 try refine xst ?_
 refine caM [] (zbf w.mines (by omega)) ?_
 try refine xst ?_
 refine caM [] (zcx w.troops (by omega)) ?_
 try refine xst ?_
 (try(refine⟨by kernel_rfl,?_⟩))
 try refine xst ?_
 refine zco [63] rfl rfl (by decide) ⟨?_,trivial⟩ ⟨rfl,trivial⟩ (Wk.of ?_)
 ·simp(etaStruct := .none)only[push_cast,zab,seval]
 ·first|rfl|kernel_rfl
def zll (w:Wld) (l:List Gop):Int:=if zah w≠0 then zah w else if 200<l.length then 2 else 0
theorem z04 {w:Wld} (hw:Right w):w.f.p.length≤1600∧w.bases.length≤8∧w.stocks.length≤8∧w.mines.length≤1600∧w.troops.length≤100:=by
 have hfo:=zba hw.f
 have hm2:w.f.w*w.f.h≤40*40:=Int.mul_le_mul hfo.1.2 hfo.2.1.2 (by omega) (by omega)
 have h1:=hw.nb
 have h2:=hw.sl
 have h3:=hw.ml
 have h4:=hw.nt
 omega
theorem z5y (w:Wld) (l:List Gop) (WR:Cel→List Int) (hWR:∀a,zai w.f [a] (WR a)) (hl:zdf w) (hll:l.length≤9223372036854775807):Spec Tryz.prog 100 [zbk w,.c (.sl 3 (l.map zc8))] [] (.tup [zbk (if zll w l=0 then zze w (zew w.f WR l w.troops).1 else default),.c (.sl 1 ((if zll w l=0 then (zew w.f WR l w.troops).2 else []).map zac)),I .i64 (zll w l)]) []:=by
 refine spB Tryz.func100 26 [.cell 4 28,.tmp 5,.tmp 6] Tryz.results100 ?_
 try refine xst ?_
 refine caP (ze9 w hl) ?_
 try refine xst ?_
 refine cI (fun h1 => ?_) fun h1 => ?_
 ·have e:zll w l=zah w:=by unfold zll;rw[if_pos h1]
  rw[e,if_neg h1,if_neg h1]
  try refine xst ?_
  exact xrz rfl
 ·have hw:=zds h1
  try refine xst ?_
  refine cI (fun h2 => ?_) fun h2 => ?_
  ·have e:zll w l=2:=by unfold zll;rw[if_neg (by simp[h1]),if_pos (by omega)]
   rw[e,if_neg (by decide),if_neg (by decide)]
   try refine xst ?_
   exact xrz rfl
  ·have e:zll w l=0:=by unfold zll;rw[if_neg (by simp[h1]),if_neg (by omega)]
   rw[e,if_pos rfl,if_pos rfl]
   have hb:=z04 hw
   try refine xst ?_
   refine caM [] (ye4 w hb) ?_
   try refine xst ?_
   refine caM [2] (yba w l WR hWR (by omega) (by omega) (by omega)) ?_
   try refine xst ?_
   refine zbe rfl (by repeat' (first|exact trivial|exact rfl|refine⟨?_,?_⟩)) (Wk.of ?_)
   first|rfl|kernel_rfl
end Go.Proofs.YtbapdgmcndgieaaGreat
namespace Go.Proofs.YtbapdgmcndgieaaGreat
set_option linter.all false
open Go.RowKit
set_option maxRecDepth 100000
theorem zlc {f:Fld} {a b:Cel} {R:List Int} {W H:Nat} (s:Srch f a b R W H) (hf:zbp f=0) (ha:inF f a=true) (hpa:zag f a≠1):∀(N:Nat) (c:Cel),inF f c=true→0≤R.getD (zau f c) default→∀x∈zq4 R f a N c,zbw f x=true
 | 0,c,_,_,x,hx=>by unfold zq4 at hx;cases hx
 | N+1,c,hc,h0,x,hx=>by
  unfold zq4 at hx
  by_cases hca:c=a
  ·rw[if_pos hca]at hx;cases hx
  ·rw[if_neg hca]at hx
   obtain⟨_,_,h3,_,h5,_⟩:=zwk s.w s.h s.w0 hf s.l s.r ha hc hca h0
   rcases List.mem_cons.1 hx with e|hx
   ·rw[e,ground_iff]
    refine⟨h3,?_⟩
    obtain⟨en,hnL⟩:=zbr s.w s.h s.w0 hf h3
    rcases s.r.why _ hnL h5 with ⟨w1,_⟩|⟨_,_,_,hr,_⟩
    ·rw[List.mem_singleton]at w1
     have epl:∀n,zag f n=f.p.getD (zau f n) default:=fun _=>rfl
     rw[epl,w1];exact hpa
    ·exact hr
   ·exact zlc s hf ha hpa N _ h3 h5 x hx
theorem ztk {f:Fld} {WR:Cel→List Int} (hWR:∀a,zai f [a] (WR a)) {a b x:Cel} (hx:x∈zxy f WR a b):zbw f x=true:=by
 unfold zxy at hx
 by_cases he:zfw (WR a) f a b=0
 ·rw[if_pos he]at hx
  unfold zfw at he
  by_cases hf:zbp f=0
  ·rw[if_neg (by simpa using hf)]at he
   by_cases hi:inF f a=true∧inF f b=true
   ·rw[if_neg (by simpa using hi)]at he
    by_cases hp:zag f a=1∨zag f b=1
    ·rw[if_pos hp]at he;exact absurd he (by decide)
    ·rw[if_neg hp]at he
     by_cases hr:(WR a).getD (zau f b) default<0
     ·rw[if_pos hr]at he;exact absurd he (by decide)
     ·have hpa:zag f a≠1:=fun h=>hp (Or.inl h)
      have hpb:zag f b≠1:=fun h=>hp (Or.inr h)
      obtain⟨W,H,s⟩:=yc5 (b:=b) hf hi.1 hpa (hWR a)
      unfold zvb at hx
      rw[List.mem_reverse]at hx
      rcases List.mem_cons.1 hx with e|hx
      ·rw[e];exact ground_iff.2 ⟨hi.2,hpb⟩
      ·exact zlc s hf hi.1 hpa _ b hi.2 (by omega) x hx
   ·rw[if_pos hi]at he;exact absurd he (by decide)
  ·rw[if_pos hf]at he;exact absurd he hf
 ·rw[if_neg he]at hx;cases hx
theorem zrb {f:Fld} {WR:Cel→List Int} (hWR:∀a,zai f [a] (WR a)) {l:List Gop} {ts:List Trp} {t:Trp} {c:Cel} (h:zoz f WR l ts t=some c):zbw f c=true∧(ts.any fun o=>decide (o.c=c))=false:=by
 unfold zoz at h
 split at h
 ·cases h
 ·rename_i g _
  split at h
  ·cases h
  ·rename_i hn
   cases h
   have h1:1<(zxy f WR t.c g.to).length:=by omega
   refine⟨ztk hWR (za9 _ _ h1),?_⟩
   cases e:ts.any fun o=>decide (o.c=(zxy f WR t.c g.to).getD 1 default)with
   | false=>rfl
   | true=>exact absurd (Or.inr e) hn
theorem zx9 {w:Wld} (h:Right w) {i:Nat} (hi:i<w.troops.length) {c:Cel} (hg:zbw w.f c=true) (hn:(w.troops.any fun o=>decide (o.c=c))=false):Right (zze w (w.troops.set i (zre (w.troops.getD i default) c))):=by
 have G:=fun p=>zjd (zre (w.troops.getD i default) c) p hi
 have hno:∀k,k<w.troops.length→(w.troops.getD k default).c≠c:=fun k hk e=>by
  have:=List.any_eq_false.1 hn _ (za9 _ _ hk)
  rw[e]at this;simp at this
 refine⟨h.f,h.nb,by simpa[zze]using h.nt,h.sl,h.ml,h.nx,h.nw,h.base,h.mine,fun k hk => ?_,fun j k hjk hk => ?_⟩
 ·have hk':k<w.troops.length:=by simpa[zze]using hk
  have e:∀t,TrpOk w t→TrpOk (zze w (w.troops.set i (zre (w.troops.getD i default) c))) t:=fun t ht=>⟨ht.kind,ht.id,ht.owner,ht.at_,ht.x,ht.y,ht.life,ht.load⟩
  have G':=G k
  change TrpOk _ ((w.troops.set i (zre (w.troops.getD i default) c)).getD k default)
  rw[G']
  split
  ·have ok:=h.trp i hi
   exact e _ (ziq ok.kind ok.id ok.owner hg ok.life ok.load)
  ·exact e _ (h.trp k hk')
 ·have hk':k<w.troops.length:=by simpa[zze]using hk
  have hj':j<w.troops.length:=Nat.lt_trans hjk hk'
  have:=h.ord j k hjk hk'
  change ((w.troops.set i (zre (w.troops.getD i default) c)).getD j default).id<((w.troops.set i (zre (w.troops.getD i default) c)).getD k default).id∧((w.troops.set i (zre (w.troops.getD i default) c)).getD j default).c≠((w.troops.set i (zre (w.troops.getD i default) c)).getD k default).c
  rw[G j,G k]
  by_cases e1:j=i
  ·have e2:k≠i:=by omega
   rw[if_pos e1,if_neg e2]
   subst e1
   exact⟨this.1,fun e=>hno k hk' e.symm⟩
  ·rw[if_neg e1]
   by_cases e2:k=i
   ·rw[if_pos e2]
    subst e2
    exact⟨this.1,fun e=>hno j hj' e⟩
   ·rw[if_neg e2];exact this
theorem zkj {w:Wld} (h:Right w) {WR:Cel→List Int} (hWR:∀a,zai w.f [a] (WR a)) (l:List Gop):∀k,k≤w.troops.length→Right (zze w (zd4 w.f WR l w.troops k).1)
 | 0,_=>by rw[zie];exact h
 | k+1,hk=>by
  have ih:=zkj h hWR l k (by omega)
  have hlen:=(zhg w.f WR l w.troops k).1
  rw[zf3]
  unfold zd3
  split
  ·exact ih
  ·rename_i c hs
   obtain⟨g1,g2⟩:=zrb hWR hs
   exact zx9 ih (i:=k) (by change k<(zd4 w.f WR l w.troops k).1.length;omega) g1 g2
theorem zo8 {w:Wld} (h:Right w) {WR:Cel→List Int} (hWR:∀a,zai w.f [a] (WR a)) (l:List Gop):Right (zze w (zew w.f WR l w.troops).1):=zkj h hWR l _ (Nat.le_refl _)
structure HitInv (w : Wld) (m : List Blw) (harm : List Int) (done : List Bool) : Prop where
 l1:harm.length=w.troops.length
 l2:done.length=w.troops.length
 val:∀j,j<w.troops.length→harm.getD j default=ze5 w m (w.troops.getD j default).id
 low:∀j,j<w.troops.length→0≤harm.getD j default∧harm.getD j default≤4*m.length
 did:∀j,j<w.troops.length→done.getD j default=m.any (zhk w (w.troops.getD j default))
theorem HitInv.start (w:Wld):HitInv w [] (List.replicate w.troops.length 0) (List.replicate w.troops.length false):=by
 have g:∀j,j<w.troops.length→(List.replicate w.troops.length (0:Int)).getD j default=0:=fun j hj=>by rw[zad _ _ (by simpa using hj)];simp
 have g2:∀j,j<w.troops.length→(List.replicate w.troops.length false).getD j default=false:=fun j hj=>by rw[zad _ _ (by simpa using hj)];simp
 exact⟨by simp,by simp,fun j hj=>by rw[g j hj,zp5],fun j hj=>by rw[g j hj];simp,fun j hj=>by rw[g2 j hj];rfl⟩
theorem HitInv.skip {w:Wld} (hu:Ups w) {m:List Blw} {harm:List Int} {done:List Bool} (h:HitInv w m harm done) (b:Blw) (hs:zkf w b=false∨∃i,i<w.troops.length∧(w.troops.getD i default).id=b.by_∧done.getD i default=true):HitInv w (m ++ [b]) harm done:=by
 have hs':zkf w b=false∨∃i,i<w.troops.length∧(w.troops.getD i default).id=b.by_∧m.any (zhk w (w.troops.getD i default))=true:=by
  rcases hs with hs|⟨i,hi,e,hd⟩
  ·exact .inl hs
  ·exact .inr ⟨i,hi,e,by rw[←h.did i hi];exact hd⟩
 refine⟨h.l1,h.l2,fun j hj=>by rw[z2x hu _ _ _ hs'];exact h.val j hj,fun j hj => ?_,fun j hj => ?_⟩
 ·have:=h.low j hj
  rw[List.length_append];simp only[List.length_cons,List.length_nil];omega
 ·rw[List.any_append,h.did j hj]
  simp only[List.any_cons,List.any_nil,Bool.or_false]
  cases hp:zhk w (w.troops.getD j default) b with
  | false=>rw[Bool.or_false]
  | true =>
   rw[Bool.or_true]
   unfold zhk at hp
   simp only[Bool.and_eq_true,decide_eq_true_eq]at hp
   rcases hs' with hs|⟨i,hi,e,hd⟩
   ·rw[hs]at hp;simp at hp
   ·by_cases hij:i=j
    ·subst hij;exact hd
    ·exact absurd (e.trans hp.1) (hu.ne hi hj hij)
theorem HitInv.go {w:Wld} (hu:Ups w) {m:List Blw} {harm:List Int} {done:List Bool} (h:HitInv w m harm done) {b:Blw} (hb:zkf w b=true) {i j:Nat} (hi:i<w.troops.length) (hj:j<w.troops.length) (ei:(w.troops.getD i default).id=b.by_) (ej:(w.troops.getD j default).id=b.at_) (hd:done.getD i default=false) :
 HitInv w (m ++ [b]) (harm.set j (harm.getD j default+(zbh (w.troops.getD i default).kind).load)) (done.set i true):=by
 have hn:m.any (zhk w (w.troops.getD i default))=false:=by rw[←h.did i hi];exact hd
 have hk:=zja (w.troops.getD i default).kind
 refine⟨by rw[List.length_set];exact h.l1,by rw[List.length_set];exact h.l2,fun q hq => ?_,fun q hq => ?_,fun q hq => ?_⟩
 ·rw[ydz _ _ (by rw[h.l1];exact hj),z2w hu _ _ _ hb hi ei hn]
  by_cases e:q=j
  ·subst e
   rw[if_pos rfl,if_pos ej.symm,h.val q hq]
  ·rw[if_neg e,if_neg (fun e2=>hu.ne hq hj e (e2.symm.trans ej.symm)),h.val q hq,Int.add_zero]
 ·rw[ydz _ _ (by rw[h.l1];exact hj),List.length_append]
  have h1:=h.low q hq
  have h2:=h.low j hj
  simp only[List.length_cons,List.length_nil]
  split<;>omega
 ·rw[yh7 _ _ (by rw[h.l2];exact hi),List.any_append]
  simp only[List.any_cons,List.any_nil,Bool.or_false]
  by_cases e:q=i
  ·subst e
   rw[if_pos rfl,show zhk w (w.troops.getD q default) b=true by unfold zhk;rw[hb,ei];simp,Bool.or_true]
  ·rw[if_neg e,h.did q hq,show zhk w (w.troops.getD q default) b=false by
    unfold zhk;rw[decide_eq_false (fun e2=>hu.ne hq hi e (e2.symm.trans ei.symm))];rfl,Bool.or_false]
section
variable {w : Wld} {b : Blw} {i j : Nat} {p q : Bool}
theorem z7e (h1:p=(zbx w b.by_).isSome) (h2:(zbx w b.by_).isSome=true→(w.troops.getD i default).id=b.by_∧(zbx w b.by_).getD zqx=w.troops.getD i default)
 (h3:q=(zbx w b.at_).isSome) (h4:(zbx w b.at_).isSome=true→(w.troops.getD j default).id=b.at_∧(zbx w b.at_).getD zqx=w.troops.getD j default) (hp:p=true) (hq:q=true) (hc:zgj w (w.troops.getD i default) (w.troops.getD j default)=true) :
 zkf w b=true∧(w.troops.getD i default).id=b.by_∧(w.troops.getD j default).id=b.at_:=by
 rw[hp]at h1;rw[hq]at h3
 have a:=h2 h1.symm
 have c:=h4 h3.symm
 refine⟨?_,a.1,c.1⟩
 unfold zkf;rw[←h1,←h3,a.2,c.2,hc];rfl
theorem ycy {done:List Bool} (hi:i<w.troops.length) (h1:p=(zbx w b.by_).isSome) (h2:(zbx w b.by_).isSome=true→(w.troops.getD i default).id=b.by_∧(zbx w b.by_).getD zqx=w.troops.getD i default)
 (h3:q=(zbx w b.at_).isSome) (h4:(zbx w b.at_).isSome=true→(w.troops.getD j default).id=b.at_∧(zbx w b.at_).getD zqx=w.troops.getD j default) (h:((p=false∨q=false)∨done.getD i default=true)∨zgj w (w.troops.getD i default) (w.troops.getD j default)=false) :
 zkf w b=false∨∃i,i<w.troops.length∧(w.troops.getD i default).id=b.by_∧done.getD i default=true:=by
 unfold zkf
 rw[←h1,←h3]
 cases p with
 | false=>exact .inl rfl
 | true =>
  cases q with
  | false=>exact .inl rfl
  | true =>
   have a:=h2 h1.symm
   have c:=h4 h3.symm
   rw[a.2,c.2]
   rcases h with (h|h)|h
   ·simp at h
   ·exact .inr ⟨i,hi,a.1,h⟩
   ·exact .inl (by rw[h];rfl)
end
end Go.Proofs.YtbapdgmcndgieaaGreat
namespace Go.Proofs.YtbapdgmcndgieaaGreat
set_option linter.all false
open Go.RowKit
set_option maxRecDepth 100000
set_option maxHeartbeats 1000000
theorem ycv (w:Wld) (l:List Blw) (hl:zdf w) (hw:zah w=0) (hll:l.length≤200) (ht:0<w.troops.length):Spec Tryz.prog 94 [zbk w,.c (.sl 2 (l.map zea))] [] (.tup [.c (.sl 1 ((zih w l).map zac)),I .i64 (zby w l)]) []:=by
 have e:zby w l=0:=by unfold zby;rw[if_neg (by simp[hw]),if_neg (by omega)]
 have hu:=ydm hw
 obtain⟨w1,w2,w3,w4,w5⟩:=zcb hw
 refine spB Tryz.func94 120 [.tmp 4,.tmp 5] Tryz.results94 ?_
 try refine xst ?_
 refine caP (ze9 w hl) ?_
 try refine xst ?_
 refine cI (fun h1 => ?_) fun h1 => ?_
 ·exact absurd hw h1
 ·try refine xst ?_
  refine cI (fun h2 => ?_) fun h2 => ?_
  ·omega
  ·try refine xst ?_
   refine zas (fun x:Nat × List (List Int × Int)=>⟨[(32,I .i64 x.1),(31,I .i64 w.troops.length),(30,.c (.sl 7 (w.troops.map zaw))),(7,.map 1),(2,.ptr 0 0 0),(1,.c (.sl 2 (l.map zea)))],[(0,.blk 28 (zhq w)),(1,.mp false 1 x.2)],2⟩) (fun x:Nat × List (List Int × Int)=>x.1≤w.troops.length∧IdxM w x.1 x.2) (fun x:Nat × List (List Int × Int)=>w.troops.length-x.1) ((0,[])) (⟨Nat.zero_le _,fun i=>rfl,fun j h=>absurd h (Nat.not_lt_zero _)⟩) (To.mk [0,1] rfl rfl (by decide) ?_ ?_) ?_
   ·simp(etaStruct := .none)only[push_cast,zab,seval]
   ·simp(etaStruct := .none)only[push_cast,zab,seval]
   rintro⟨k,es⟩ ⟨hk,hn⟩
   simp only at hk hn
   try refine xst ?_
   refine cI (fun h3 => ?_) fun h3 => ?_
   ·have hlt:k<w.troops.length:=by omega
    try refine xz2 (gd hlt) zae ?_
    refine⟨(k+1,zhe [(w.troops.getD k default).id] (k:Int) es),⟨by simp only;omega,hn.step hu hlt⟩,by simp only;omega,To.mk [0,1] rfl rfl (by decide) ?_ ?_⟩
    ·(try(refine xz2 (gd hlt) zae ?_;try exact xtI))
    ·(try(refine xz2 (gd hlt) zae ?_;try exact xtI))
   ·obtain rfl:k=w.troops.length:=by omega
    have hget:=hn.get ht
    try refine xst ?_
    refine zas (fun x:Nat × List Int × List Bool=>⟨[(52,I .i64 x.1),(51,I .i64 l.length),(50,.c (.sl 2 (l.map zea))),(11,.own 3),(10,.own 2),(7,.map 1),(2,.ptr 0 0 0)],[(0,.blk 28 (zhq w)),(1,.mp false 1 es),(2,.row 3 1 (x.2.1.map zac)),(3,.row 4 1 (x.2.2.map ze2))],4⟩) (fun x:Nat × List Int × List Bool=>x.1≤l.length∧HitInv w (l.take x.1) x.2.1 x.2.2) (fun x:Nat × List Int × List Bool=>l.length-x.1) ((0,List.replicate w.troops.length 0,List.replicate w.troops.length false)) (⟨Nat.zero_le _,HitInv.start w⟩) (To.mk [0,1,2,3] rfl rfl (by decide) ?_ ?_) ?_
    ·simp(etaStruct := .none)only[push_cast,zab,seval,List.map_replicate,List.length_replicate,zac,ze2]
    ·simp(etaStruct := .none)only[push_cast,zab,seval]
    rintro⟨k,harm,done⟩ ⟨hk,hinv⟩
    simp only at hk hinv
    have hl1:=hinv.l1
    have hl2:=hinv.l2
    try refine xst ?_
    refine cI (fun h4 => ?_) fun h4 => ?_
    ·have hlt:k<l.length:=by omega
     obtain⟨b,hb⟩:∃b,b=l.getD k default:=⟨_,rfl⟩
     obtain⟨i,hi,gi,mi1,mi2⟩:=hget b.by_
     obtain⟨j,hj,gj,mj1,mj2⟩:=hget b.at_
     have hid:i<done.length:=by omega
     have hjh:j<harm.length:=by omega
     have htk:l.take (k+1)=l.take k ++ [b]:=by rw[zav _ _ hlt,hb]
     have hlow:=hinv.low j hj
     have hkh:=zja (w.troops.getD i default).kind
     rw[List.length_take]at hlow
     iterate 2(try simp(etaStruct := .none)only[push_cast,zab,seval,zaa _ _ _ hlt,←hb,zea,gi,gj,zaa _ _ _ hid,zaa _ _ _ hi,zaa _ _ _ hj,zaa _ _ _ hjh,zaw,ze2,zac];try refine xsu ?_)
     refine gcP (fun hcc=>z63 w (w.troops.getD i default) (w.troops.getD j default) hl hw (za9 _ _ hi) (za9 _ _ hj)) ?_
     iterate 2(try simp(etaStruct := .none)only[push_cast,zab,seval,zaa _ _ _ hlt,←hb,zea,gi,gj,zaa _ _ _ hid,zaa _ _ _ hi,zaa _ _ _ hj,zaa _ _ _ hjh,zaw,ze2,zac];try refine xsu ?_)
     (try(refine⟨by kernel_rfl,?_⟩))
     iterate 2(try simp(etaStruct := .none)only[push_cast,zab,seval,zaa _ _ _ hlt,←hb,zea,gi,gj,zaa _ _ _ hid,zaa _ _ _ hi,zaa _ _ _ hj,zaa _ _ _ hjh,zaw,ze2,zac];try refine xsu ?_)
     refine cI (fun h5 => ?_) fun h5 => ?_
     ·have hnx:=hinv.skip hu b (ycy hi mi1 mi2 mj1 mj2 h5)
      rw[←htk]at hnx
      iterate 2(try simp(etaStruct := .none)only[push_cast,zab,seval,zaa _ _ _ hlt,←hb,zea,gi,gj,zaa _ _ _ hid,zaa _ _ _ hi,zaa _ _ _ hj,zaa _ _ _ hjh,zaw,ze2,zac];try refine xsu ?_)
      refine⟨(k+1,harm,done),⟨by simp only;omega,hnx⟩,by simp only;omega,To.mk [0,1,2,3] rfl rfl (by decide) ?_ ?_⟩
      ·(iterate 2((try simp(etaStruct := .none)only[push_cast,zab,seval,zaa _ _ _ hlt,←hb,zea,gi,gj,zaa _ _ _ hid,zaa _ _ _ hi,zaa _ _ _ hj,zaa _ _ _ hjh,zaw,ze2,zac]);(try(refine xsu ?_;try exact xtI))))
      ·(iterate 2((try simp(etaStruct := .none)only[push_cast,zab,seval,zaa _ _ _ hlt,←hb,zea,gi,gj,zaa _ _ _ hid,zaa _ _ _ hi,zaa _ _ _ hj,zaa _ _ _ hjh,zaw,ze2,zac]);(try(refine xsu ?_;try exact xtI))))
     ·obtain⟨y1,y2,y3⟩:=z7e mi1 mi2 mj1 mj2 h5.1.1.1 h5.1.1.2 h5.2
      have hnx:=hinv.go hu y1 hi hj y2 y3 h5.1.2
      rw[←htk]at hnx
      iterate 2(try simp(etaStruct := .none)only[push_cast,zab,seval,zaa _ _ _ hlt,←hb,zea,gi,gj,zaa _ _ _ hid,zaa _ _ _ hi,zaa _ _ _ hj,zaa _ _ _ hjh,zaw,ze2,zac];try refine xsu ?_)
      refine caP (zh4 (w.troops.getD i default).kind) ?_
      iterate 2(try simp(etaStruct := .none)only[push_cast,zab,seval,zaa _ _ _ hlt,←hb,zea,gi,gj,zaa _ _ _ hid,zaa _ _ _ hi,zaa _ _ _ hj,zaa _ _ _ hjh,zaw,ze2,zac];try refine xsu ?_)
      (try(refine⟨by kernel_rfl,?_⟩))
      iterate 2(try simp(etaStruct := .none)only[push_cast,zab,seval,zaa _ _ _ hlt,←hb,zea,gi,gj,zaa _ _ _ hid,zaa _ _ _ hi,zaa _ _ _ hj,zaa _ _ _ hjh,zaw,ze2,zac];try refine xsu ?_)
      refine⟨(k+1,harm.set j (harm.getD j default+(zbh (w.troops.getD i default).kind).load),done.set i true),⟨by simp only;omega,hnx⟩,by simp only;omega,To.mk [0,1,2,3] rfl rfl (by decide) ?_ ?_⟩
      ·(iterate 2((try simp(etaStruct := .none)only[push_cast,zab,seval,List.map_set,zac,ze2]);(try(refine xsu ?_;try exact xtI))))
      ·(iterate 2((try simp(etaStruct := .none)only[push_cast,zab,seval,zaa _ _ _ hlt,←hb,zea,gi,gj,zaa _ _ _ hid,zaa _ _ _ hi,zaa _ _ _ hj,zaa _ _ _ hjh,zaw,ze2,zac]);(try(refine xsu ?_;try exact xtI))))
    ·obtain rfl:k=l.length:=by omega
     rw[List.take_length]at hinv
     have e2:zih w l=harm:=by unfold zih;rw[if_pos e];exact(z6o hl1 hinv.val).symm
     try refine xst ?_
     (first|(refine zar rfl (Wk.of ?_);(try simp(etaStruct := .none)only[push_cast,zab,seval]);first|done|(simp[e,e2, *];done)|(simp_all[e,e2];done))|(refine zar rfl ?_;(try simp(etaStruct := .none)only[push_cast,zab,seval]);(try simp[e,e2, *]);(try exact wkc)))
theorem ycw (w:Wld) (l:List Blw) (hl:zdf w) (hw:zah w=0) (hll:l.length≤200) (ht:w.troops = []):Spec Tryz.prog 94 [zbk w,.c (.sl 2 (l.map zea))] [] (.tup [.c (.sl 1 ((zih w l).map zac)),I .i64 (zby w l)]) []:=by
 have e:zby w l=0:=by unfold zby;rw[if_neg (by simp[hw]),if_neg (by omega)]
 have e2:zih w l = []:=by unfold zih zp6;rw[if_pos e,ht];rfl
 obtain⟨wf,wb,ws,wm,wt,wn,wo⟩:=w
 simp only at ht
 subst ht
 obtain⟨w,hwd⟩:∃w:Wld,w=⟨wf,wb,ws,wm,[],wn,wo⟩:=⟨_,rfl⟩
 refine spB Tryz.func94 120 [.tmp 4,.tmp 5] Tryz.results94 ?_
 iterate 2(try simp(etaStruct := .none)only[push_cast,zab,seval,List.getD_nil];try refine xsu ?_)
 refine caP (ze9 _ hl) ?_
 iterate 2(try simp(etaStruct := .none)only[push_cast,zab,seval,List.getD_nil];try refine xsu ?_)
 refine cI (fun h1 => ?_) fun h1 => ?_
 ·exact absurd hw h1
 ·iterate 2(try simp(etaStruct := .none)only[push_cast,zab,seval,List.getD_nil];try refine xsu ?_)
  refine cI (fun h2 => ?_) fun h2 => ?_
  ·omega
  ·iterate 2(try simp(etaStruct := .none)only[push_cast,zab,seval,List.getD_nil];try refine xsu ?_)
   refine zas (fun _u:Unit=>⟨[(32,I .i64 0),(31,I .i64 0),(30,.c (.sl 7 [])),(7,.map 1),(2,.ptr 0 0 0),(1,.c (.sl 2 (l.map zea)))],[(0,.blk 28 (zhq ⟨wf,wb,ws,wm,[],wn,wo⟩)),(1,.mp false 1 [])],2⟩) (fun _u:Unit=>Tr) (fun _u:Unit=>0) (()) (trI) (To.mk [0,1] rfl rfl (by decide) ?_ ?_) ?_
   ·simp(etaStruct := .none)only[push_cast,zab,seval]
   ·simp(etaStruct := .none)only[push_cast,zab,seval]
   rintro _ _
   iterate 2(try simp(etaStruct := .none)only[push_cast,zab,seval,List.getD_nil];try refine xsu ?_)
   refine cI (fun h3 => ?_) fun h3 => ?_
   ·simp at h3
   ·iterate 2(try simp(etaStruct := .none)only[push_cast,zab,seval,List.getD_nil];try refine xsu ?_)
    refine zas (fun k:Nat=>⟨[(52,I .i64 k),(51,I .i64 l.length),(50,.c (.sl 2 (l.map zea))),(11,.own 3),(10,.own 2),(7,.map 1),(2,.ptr 0 0 0)],[(0,.blk 28 (zhq ⟨wf,wb,ws,wm,[],wn,wo⟩)),(1,.mp false 1 []),(2,.row 3 1 []),(3,.row 4 1 [])],4⟩) (fun k:Nat=>k≤l.length) (fun k:Nat=>l.length-k) (0) (Nat.zero_le _) (To.mk [0,1,2,3] rfl rfl (by decide) ?_ ?_) ?_
    ·simp(etaStruct := .none)only[push_cast,zab,seval]
    ·simp(etaStruct := .none)only[push_cast,zab,seval]
    rintro k hk
    iterate 2(try simp(etaStruct := .none)only[push_cast,zab,seval,List.getD_nil];try refine xsu ?_)
    refine cI (fun h4 => ?_) fun h4 => ?_
    ·have hlt:k<l.length:=by omega
     iterate 2(try simp(etaStruct := .none)only[push_cast,zab,seval,List.getD_nil,zaa _ _ _ hlt,zea];try refine xsu ?_)
     repeat(with_reducible refine And.intro ?_ ?_;· (simp[zpm];done))
     refine zje ?_ ?_
     ·simp[zpm]
     iterate 2(try simp(etaStruct := .none)only[push_cast,zab,seval,List.getD_nil,zaa _ _ _ hlt,zea];try refine xsu ?_)
     (try(refine⟨by kernel_rfl,?_⟩))
     iterate 2(try simp(etaStruct := .none)only[push_cast,zab,seval,List.getD_nil,zaa _ _ _ hlt,zea];try refine xsu ?_)
     refine cI (fun h5 => ?_) fun h5 => ?_
     ·iterate 2(try simp(etaStruct := .none)only[push_cast,zab,seval,List.getD_nil,zaa _ _ _ hlt,zea];try refine xsu ?_)
      refine⟨k+1,by omega,by omega,To.mk [0,1,2,3] rfl rfl (by decide) ?_ ?_⟩
      ·(iterate 2((try simp(etaStruct := .none)only[push_cast,zab,seval,List.getD_nil,zaa _ _ _ hlt,zea]);(try(refine xsu ?_;try exact xtI))))
      ·(iterate 2((try simp(etaStruct := .none)only[push_cast,zab,seval,List.getD_nil,zaa _ _ _ hlt,zea]);(try(refine xsu ?_;try exact xtI))))
     ·simp[zpm]at h5
    ·iterate 2(try simp(etaStruct := .none)only[push_cast,zab,seval,List.getD_nil];try refine xsu ?_)
     (first|(refine zar rfl (Wk.of ?_);(try simp(etaStruct := .none)only[push_cast,zab,seval]);first|done|(simp[e,e2, *];done)|(simp_all[e,e2];done))|(refine zar rfl ?_;(try simp(etaStruct := .none)only[push_cast,zab,seval]);(try simp[e,e2, *]);(try exact wkc)))
abbrev yje (b:Blw):AV := .agg [I .i64 b.by_,I .i64 b.at_]
theorem zxc {w:Wld} (hw:zah w=0) (n:Int):0≤((zbx w n).getD zqx).c.x∧((zbx w n).getD zqx).c.x≤40∧0≤((zbx w n).getD zqx).c.y∧((zbx w n).getD zqx).c.y≤40∧((zbx w n).isSome=true→(zbx w n).getD zqx∈w.troops):=by
 cases h:(zbx w n).isSome with
 | false =>
  have:zbx w n=none:=by cases hf:zbx w n;rfl;rw[hf]at h;simp at h
  rw[this];simp[zqx]
 | true =>
  obtain⟨i,hi,_,e⟩:=zoe h
  have hm:=za9 w.troops i hi
  have ok:=zfk hw hm
  have hx:=ok.x;have hy:=ok.y
  have:=zba (zcb hw).1
  rw[e]
  exact⟨hx.1,by omega,hy.1,by omega,fun _=>hm⟩
theorem zmn (a b:Cel):(if (a.x-b.x).natAbs<(a.y-b.y).natAbs then ((a.y-b.y).natAbs:Int)else ((a.x-b.x).natAbs:Int))=(zyt a b:Int):=by
 unfold zyt;split<;>omega
theorem ycx (w:Wld) (b:Blw) (hl:zdf w) (hw:zah w=0):Spec Tryz.prog 151 [zbk w,yje b] [] (B (zkf w b)) []:=by
 have hf:=(zcb hw).1
 obtain⟨x,hx⟩:∃x,x=(zbx w b.by_).getD zqx:=⟨_,rfl⟩
 obtain⟨y,hy⟩:∃y,y=(zbx w b.at_).getD zqx:=⟨_,rfl⟩
 obtain⟨p,hp⟩:∃p,p=(zbx w b.by_).isSome:=⟨_,rfl⟩
 obtain⟨q,hq⟩:∃q,q=(zbx w b.at_).isSome:=⟨_,rfl⟩
 have fx:=zxc hw b.by_
 have fy:=zxc hw b.at_
 have e:zkf w b=(p&&q&&zgj w x y):=by unfold zkf;rw[←hp,←hq,←hx,←hy]
 rw[←hx,←hp]at fx
 rw[←hy,←hq]at fy
 have kx:p=true→x.kind=1∨x.kind=2:=fun h=>(zfk hw (fx.2.2.2.2 h)).kind
 have ix:p=true→inF w.f x.c=true:=fun h=>(ground_iff.1 (zfk hw (fx.2.2.2.2 h)).at_).1
 have iy:q=true→inF w.f y.c=true:=fun h=>(ground_iff.1 (zfk hw (fy.2.2.2.2 h)).at_).1
 refine spB Tryz.func151 65 [.tmp 4] Tryz.results151 ?_
 try refine xz4 hx.symm hy.symm hp.symm hq.symm ?_
 refine caP (zlh w b.by_ hl) ?_
 try refine xz4 hx.symm hy.symm hp.symm hq.symm ?_
 refine caP (zlh w b.at_ hl) ?_
 try refine xz4 hx.symm hy.symm hp.symm hq.symm ?_
 refine gcP (fun hcc=>zsv x.c.x y.c.x (by omega) (by omega)) ?_
 try refine xz4 hx.symm hy.symm hp.symm hq.symm ?_
 refine gcP (fun hcc=>zsv x.c.y y.c.y (by omega) (by omega)) ?_
 try refine xz4 hx.symm hy.symm hp.symm hq.symm ?_
 refine gcP (fun hcc=>zhh x.kind (kx (by simp at hcc;exact hcc.1.1))) ?_
 try refine xz4 hx.symm hy.symm hp.symm hq.symm ?_
 refine gcP (fun hcc=>ybl w.f x.c y.c hf (ix (by simp at hcc;exact hcc.1.1.1)) (iy (by simp at hcc;exact hcc.1.1.2))) ?_
 try refine xz4 hx.symm hy.symm hp.symm hq.symm ?_
 (try(refine⟨by kernel_rfl,?_⟩))
 try refine xz4 hx.symm hy.symm hp.symm hq.symm ?_
 clear hx hy hp hq fx fy kx ix iy
 (first|(refine zar rfl (Wk.of ?_);(try simp(etaStruct := .none)only[push_cast,zab,seval]);first|done|(simp[e,zgj,zmn,Bool.and_assoc, *];done)|(simp_all[e,zgj,zmn,Bool.and_assoc];done))|(refine zar rfl ?_;(try simp(etaStruct := .none)only[push_cast,zab,seval]);(try simp[e,zgj,zmn,Bool.and_assoc, *]);(try exact wkc)))
abbrev z9d (w:Wld):List PV := [pI w.f.w,pI w.f.h,.sl 1 (w.f.p.map zac),.sl 2 (w.bases.map zaz),.sl 1 (w.stocks.map zac),.sl 1 (w.mines.map zac),.sl 7 (w.troops.map zaw),pI w.next,pI w.now]
abbrev z9r (t:Trp):List PV := [pI t.id,pI t.owner,pI t.kind,pI t.c.x,pI t.c.y,pI t.life,pI t.load]
theorem z2v (w:Wld) (t:Trp) (b:Blw) (hl:zdf w) (hw:zah w=0):Spec Tryz.prog 150 ([] ++ [yje b] ++ [.fel 7 [z9r t] 0 0,.fel 9 [z9d w] 0 0]) [] (B (zhk w t b)) []:=by
 refine spB Tryz.func150 15 [.tmp 4] Tryz.results150 ?_
 try refine xst ?_
 refine gcP (fun hcc=>ycx w b hl hw) ?_
 try refine xst ?_
 (first|(refine zar rfl (Wk.of ?_);(try simp(etaStruct := .none)only[push_cast,zab,seval]);first|done|(simp[zhk, *];done)|(simp_all[zhk];done))|(refine zar rfl ?_;(try simp(etaStruct := .none)only[push_cast,zab,seval]);(try simp[zhk, *]);(try exact wkc)))
theorem z88 (F:FuncId) (a b:List AV) (l:List Blw) (p:Blw→Bool) (hl:l.length≤9223372036854775807) (hp:∀n∈l,Spec Tryz.prog F (a ++ [yje n]++b) [] (B (p n)) []) (ha:∀h,cvL [] h a=a) (hb:∀h,cvL [] h b=b) :
 Spec Tryz.prog 149 [.c (.sl 2 (l.map zea)),.clo (.func F) a b] [] (I .i64 (ze4 p l)) []:=by
 refine spB Tryz.func149 19 [.tmp 4] Tryz.results149 ?_
 simp(etaStruct := .none)only[push_cast,zab,seval]
 refine zas (fun k:Nat=>⟨[(8,I .i64 k),(7,I .i64 l.length),(0,.c (.sl 2 (l.map zea))),(1,.clo (.func F) a b)],[],0⟩) (fun k=>k≤l.length∧∀j (hj:j<l.length),j<k→p l[j]=false) (fun k=>l.length-k) 0 ⟨Nat.zero_le _,fun j _ h=>by omega⟩ (To.mk [] rfl rfl List.nodup_nil trivial ?_) ?_
 ·simp(etaStruct := .none)only[push_cast,zab,seval,ha,hb]
 ·rintro k ⟨hk,hn⟩
  simp(etaStruct := .none)only[push_cast,zab,seval]
  refine zal (fun h => ?_) (fun h => ?_)
  ·have hlt:k<l.length:=by simpa using h
   simp(etaStruct := .none)only[push_cast,zab,seval,zbn _ _ _ hlt,zea]
   repeat with_reducible refine obA ?_
   refine zct (hp _ (List.getElem_mem hlt)) (by simp only[zdr,ha,hb,cvL,cv];exact WkL.refl _) ?_
   simp(etaStruct := .none)only[push_cast,zab,seval]
   refine zal (fun h => ?_) (fun h => ?_)
   ·simp(etaStruct := .none)only[push_cast,zab,seval]
    exact zbe rfl trivial (Wk.of (by rw[zdc p l k hlt h hn];rfl))
   ·simp(etaStruct := .none)only[push_cast,zab,seval]
    refine⟨k+1,⟨by omega,fun j hj hjk => ?_⟩,by omega,To.mk [] rfl rfl List.nodup_nil trivial ?_⟩
    ·by_cases e:j=k
     ·subst e;exact h
     ·exact hn j hj (by omega)
    ·simp(etaStruct := .none)only[push_cast,zab,seval,ha,hb]
     simp(disch:=omega)only[zaq,zbl,tdv,tmd]
  ·have hge:k=l.length:=by simp at h;omega
   subst hge
   simp(etaStruct := .none)only[push_cast,zab,seval]
   exact zbe rfl trivial (Wk.of (by rw[zcs p l (fun j hj=>hn j hj hj)];rfl))
theorem yb5 (w:Wld) (l:List Blw) (id:Int) (k:Nat) (h:k<w.troops.length):zqy ((w.troops.take (k+1)).map (zm8 w l id))=zqy ((w.troops.take k).map (zm8 w l id))+zm8 w l id (w.troops.getD k default):=by
 rw[zav _ _ h,List.map_append,List.map_cons,List.map_nil,z0c]
theorem yi0 (w:Wld) (l:List Blw) (id:Int) (t:Trp):0≤zm8 w l id t∧zm8 w l id t≤4:=by
 have:=zja t.kind
 unfold zm8
 split
 ·split<;>omega
 ·omega
theorem z9s (w:Wld) (l:List Blw) (id:Int):∀ts:List Trp,0≤zqy (ts.map (zm8 w l id))∧zqy (ts.map (zm8 w l id))≤4*ts.length
 | []=>by simp[zqy]
 | t::r=>by
  have h1:=z9s w l id r
  have h2:=yi0 w l id t
  simp only[zqy,List.map_cons,List.sum_cons,List.length_cons]at *
  omega
theorem yfq (w:Wld) (l:List Blw) (id:Int) (hl:zdf w) (hw:zah w=0) (hll:l.length≤200) (hpos:0<l.length):Spec Tryz.prog 122 [zbk w,.c (.sl 2 (l.map zea)),I .i64 id] [] (I .i64 (ze5 w l id)) []:=by
 have w3:=(zcb hw).2.2.1
 refine spB Tryz.func122 40 [.tmp 6] Tryz.results122 ?_
 try refine xst ?_
 refine zas (fun k:Nat=>⟨[(14,I .i64 k),(13,I .i64 w.troops.length),(12,.c (.sl 7 (w.troops.map zaw))),(7,I .i64 (zqy ((w.troops.take k).map (zm8 w l id)))),(3,.ptr 0 0 0),(2,I .i64 id),(1,.c (.sl 2 (l.map zea)))],[(0,.blk 28 (zhq w))],1⟩) (fun k:Nat=>k≤w.troops.length) (fun k:Nat=>w.troops.length-k) (0) (Nat.zero_le _) (To.mk [0] rfl rfl (by decide) ?_ ?_) ?_
 ·simp(etaStruct := .none)only[push_cast,zab,seval]
 ·simp(etaStruct := .none)only[push_cast,zab,seval,List.take_zero,List.map_nil,zqy,List.sum_nil]
 rintro k hk
 have hsb:=z9s w l id (w.troops.take k)
 rw[List.length_take]at hsb
 try refine xst ?_
 refine cI (fun h1 => ?_) fun h1 => ?_
 ·have hlt:k<w.troops.length:=by omega
  have hst:=yb5 w l id k hlt
  obtain⟨i,hi,gi,hc⟩:∃i:Nat,i<l.length∧(ze4 (zhk w (w.troops.getD k default)) l).toNat=i∧zm8 w l id (w.troops.getD k default)=if 0≤ze4 (zhk w (w.troops.getD k default)) l∧(l.getD i default).at_=id then (zbh (w.troops.getD k default).kind).load else 0:=by
   rcases z2g (zhk w (w.troops.getD k default)) l with ⟨i,hi,e1,e2⟩|⟨e1,e2⟩
   ·refine⟨i,hi,by rw[e1];rfl,?_⟩
    unfold zm8
    rw[e2,e1]
    by_cases h:(l.getD i default).at_=id
    ·rw[if_pos ⟨by omega,h⟩];simp only;rw[if_pos h]
    ·rw[if_neg (fun h2=>h h2.2)];simp only;rw[if_neg h]
   ·refine⟨0,hpos,by rw[e1];rfl,?_⟩
    unfold zm8
    rw[e2,e1,if_neg (fun h=>by omega)]
  obtain⟨ig1,ig2⟩:=ybv (zhk w (w.troops.getD k default)) l
  have hkh:=zja (w.troops.getD k default).kind
  have hko:=(ze8 hw hlt).1.kind
  try refine xz5 (gd hlt) zae gi (gd hi) zs3 ?_
  refine zbv (z88 _ [] [.fel 7 [z9r (w.troops.getD k default)] 0 0,.fel 9 [z9d w] 0 0] l (zhk w (w.troops.getD k default)) (by omega) (fun b _=>z2v w _ b hl hw) (fun _=>rfl) (fun _=>rfl)) (WkL.refl _) rfl ?_
  try refine xz5 (gd hlt) zae gi (gd hi) zs3 ?_
  refine cI (fun h2 => ?_) fun h2 => ?_
  ·rw[if_pos h2]at hc
   try refine xz5 (gd hlt) zae gi (gd hi) zs3 ?_
   refine caP (zhh (w.troops.getD k default).kind hko) ?_
   try refine xz5 (gd hlt) zae gi (gd hi) zs3 ?_
   refine⟨k+1,by omega,by omega,To.mk [0] rfl rfl (by decide) ?_ ?_⟩
   ·(iterate 2((try simp(etaStruct := .none)only[push_cast,zab,seval,hst,hc,Int.add_zero]);(try(refine xsu ?_;try exact xtI))))
   ·(iterate 2((try simp(etaStruct := .none)only[push_cast,zab,seval,hst,hc,Int.add_zero]);(try(refine xsu ?_;try exact xtI))))
  ·rw[if_neg (fun h=>by rcases h2 with h3|h3;omega;exact h3 h.2)]at hc
   try refine xz5 (gd hlt) zae gi (gd hi) zs3 ?_
   refine⟨k+1,by omega,by omega,To.mk [0] rfl rfl (by decide) ?_ ?_⟩
   ·(iterate 2((try simp(etaStruct := .none)only[push_cast,zab,seval,hst,hc,Int.add_zero]);(try(refine xsu ?_;try exact xtI))))
   ·(iterate 2((try simp(etaStruct := .none)only[push_cast,zab,seval,hst,hc,Int.add_zero]);(try(refine xsu ?_;try exact xtI))))
 ·obtain rfl:k=w.troops.length:=by omega
  have e:ze5 w l id=zqy ((w.troops.take w.troops.length).map (zm8 w l id)):=by rw[List.take_length];rfl
  try refine xst ?_
  (first|(refine zar rfl (Wk.of ?_);(try simp(etaStruct := .none)only[push_cast,zab,seval]);first|done|(simp[e, *];done)|(simp_all[e];done))|(refine zar rfl ?_;(try simp(etaStruct := .none)only[push_cast,zab,seval]);(try simp[e, *]);(try exact wkc)))
theorem yb9 (w:Wld) (id:Int) (hl:zdf w) (hw:zah w=0):Spec Tryz.prog 122 [zbk w,.c (.sl 2 []),I .i64 id] [] (I .i64 0) []:=by
 have w3:=(zcb hw).2.2.1
 refine spB Tryz.func122 40 [.tmp 6] Tryz.results122 ?_
 try refine xst ?_
 refine zas (fun k:Nat=>⟨[(14,I .i64 k),(13,I .i64 w.troops.length),(12,.c (.sl 7 (w.troops.map zaw))),(7,I .i64 0),(3,.ptr 0 0 0),(2,I .i64 id),(1,.c (.sl 2 []))],[(0,.blk 28 (zhq w))],1⟩) (fun k:Nat=>k≤w.troops.length) (fun k:Nat=>w.troops.length-k) (0) (Nat.zero_le _) (To.mk [0] rfl rfl (by decide) ?_ ?_) ?_
 ·simp(etaStruct := .none)only[push_cast,zab,seval]
 ·simp(etaStruct := .none)only[push_cast,zab,seval]
 rintro k hk
 try refine xst ?_
 refine cI (fun h1 => ?_) fun h1 => ?_
 ·have hlt:k<w.troops.length:=by omega
  have hz:ze4 (zhk w (w.troops.getD k default)) ([]:List Blw) = -1:=rfl
  iterate 2(try simp(etaStruct := .none)only[push_cast,zab,seval,zaa _ _ _ hlt,zaw,List.getD_nil];try refine xsu ?_)
  refine zbv (z88 _ [] [.fel 7 [z9r (w.troops.getD k default)] 0 0,.fel 9 [z9d w] 0 0] [] (zhk w (w.troops.getD k default)) (by simp) (fun b _=>z2v w _ b hl hw) (fun _=>rfl) (fun _=>rfl)) (WkL.refl _) rfl ?_
  iterate 2(try simp(etaStruct := .none)only[push_cast,zab,seval,zaa _ _ _ hlt,zaw,List.getD_nil];try refine xsu ?_)
  repeat(with_reducible refine And.intro ?_ ?_;· (simp[hz];done))
  refine cI (fun h2 => ?_) fun h2 => ?_
  ·exact absurd h2 (by decide)
  ·iterate 2(try simp(etaStruct := .none)only[push_cast,zab,seval,zaa _ _ _ hlt,zaw,List.getD_nil];try refine xsu ?_)
   refine⟨k+1,by omega,by omega,To.mk [0] rfl rfl (by decide) ?_ ?_⟩
   ·(iterate 2((try simp(etaStruct := .none)only[push_cast,zab,seval,zaa _ _ _ hlt,zaw,List.getD_nil]);(try(refine xsu ?_;try exact xtI))))
   ·(iterate 2((try simp(etaStruct := .none)only[push_cast,zab,seval,zaa _ _ _ hlt,zaw,List.getD_nil]);(try(refine xsu ?_;try exact xtI))))
 ·skip
  try refine xst ?_
  exact xrz rfl
theorem yfr (w:Wld) (l:List Blw) (id:Int) (hl:zdf w) (hw:zah w=0) (hll:l.length≤200):Spec Tryz.prog 122 [zbk w,.c (.sl 2 (l.map zea)),I .i64 id] [] (I .i64 (ze5 w l id)) []:=by
 cases l with
 | nil=>rw[zp5];exact yb9 w id hl hw
 | cons a r=>exact yfq w (a::r) id hl hw hll (by simp)
theorem zw3 (w:Wld) (l:List Blw) (hl:zdf w) (hll:l.length≤9223372036854775807):Spec Tryz.prog 94 [zbk w,.c (.sl 2 (l.map zea))] [] (.tup [.c (.sl 1 ((zih w l).map zac)),I .i64 (zby w l)]) []:=by
 by_cases h:zby w l=0
 ·have h1:zah w=0:=by unfold zby at h;split at h;rename_i h1;exact absurd h h1;rename_i h1;simpa using h1
  have h2:l.length≤200:=by unfold zby at h;rw[if_neg (by simp[h1])]at h;split at h;simp at h;omega
  rcases Nat.eq_zero_or_pos w.troops.length with h3|h3
  ·exact ycw w l hl h1 h2 (List.eq_nil_of_length_eq_zero h3)
  ·exact ycv w l hl h1 h2 h3
 ·exact ycu w l hl hll h
theorem yfn (w:Wld) (hw:zah w=0):Spec Tryz.prog 95 [zbk w] [] (zbk w) []:=by
 obtain⟨w1,w2,w3,w4,w5⟩:=zcb hw
 obtain⟨v1,v2,v3,v4⟩:=zla w4
 obtain⟨⟨f1,f2⟩,⟨f3,f4⟩,f5,f6⟩:=zba w1
 have hm:w.f.w*w.f.h≤40*40:=Int.mul_le_mul f2 f4 (by omega) (by omega)
 refine spB Tryz.func95 26 [.cell 2 28] Tryz.results95 ?_
 try refine xst ?_
 refine caP (zf5 w.f.p (by omega)) ?_
 try refine xst ?_
 refine caP (zqn w.bases (by omega)) ?_
 try refine xst ?_
 refine caP (zf5 w.stocks (by omega)) ?_
 try refine xst ?_
 (try(refine⟨by kernel_rfl,?_⟩))
 try refine xst ?_
 refine caP (zf5 w.mines (by omega)) ?_
 try refine xst ?_
 refine caP (zvk w.troops (by omega)) ?_
 try refine xst ?_
 (try(refine⟨by kernel_rfl,?_⟩))
 try refine xst ?_
 exact xrz rfl
def ydg:Wld:=⟨⟨0,0,[]⟩,[],[],[],[],0,0⟩
def znf (w:Wld) (l:List Blw) (k:Nat):List Trp:=((w.troops.take k).map (zdi w l)).filter fun t=>decide (0<t.life)
def zmq (w:Wld) (l:List Blw) (k:Nat):List Int:=(((w.troops.take k).map (zdi w l)).filter fun t => !decide (0<t.life)).map (·.id)
theorem zn9 (w:Wld) (l:List Blw) {k:Nat} (h:k<w.troops.length):znf w l (k+1)=znf w l k++(if 0<(zdi w l (w.troops.getD k default)).life then [zdi w l (w.troops.getD k default)]else []):=by
 unfold znf
 rw[zav _ _ h,List.map_append,List.filter_append,List.map_cons,List.map_nil,List.filter_cons,List.filter_nil]
 simp only[decide_eq_true_eq]
theorem zoc (w:Wld) (l:List Blw) {k:Nat} (h:k<w.troops.length):zmq w l (k+1)=zmq w l k++(if 0<(zdi w l (w.troops.getD k default)).life then []else [(w.troops.getD k default).id]):=by
 unfold zmq
 rw[zav _ _ h,List.map_append,List.filter_append,List.map_cons,List.map_nil,List.filter_cons,List.filter_nil,List.map_append]
 by_cases h2:0<(zdi w l (w.troops.getD k default)).life
 ·rw[if_pos h2,decide_eq_true h2];simp
 ·rw[if_neg h2,decide_eq_false h2];simp[zdi]
theorem zsf (w:Wld) (l:List Blw) (k:Nat):(znf w l k).length≤k:=by
 have h1:=List.length_filter_le (fun t:Trp=>decide (0<t.life)) ((w.troops.take k).map (zdi w l))
 rw[List.length_map,List.length_take]at h1
 exact Nat.le_trans h1 (Nat.min_le_left _ _)
theorem zsp (w:Wld) (l:List Blw) (k:Nat):(zmq w l k).length≤k:=by
 unfold zmq
 rw[List.length_map]
 have h1:=List.length_filter_le (fun t:Trp => !decide (0<t.life)) ((w.troops.take k).map (zdi w l))
 rw[List.length_map,List.length_take]at h1
 exact Nat.le_trans h1 (Nat.min_le_left _ _)
theorem zsg (w:Wld) (l:List Blw):znf w l w.troops.length=zi8 w l:=by unfold znf;rw[List.take_length];rfl
theorem zsq (w:Wld) (l:List Blw):zmq w l w.troops.length=zyx w l:=by unfold zmq;rw[List.take_length];rfl
theorem zum (w:Wld) (l:List Blw) (id:Int):0≤ze5 w l id∧ze5 w l id≤4*w.troops.length:=z9s w l id w.troops
def zfe (w:Wld) (l:List Blw):Wld:=if zby w l=0 then zc3 w l else ydg
def zso (w:Wld) (l:List Blw):List Int:=if zby w l=0 then zyx w l else []
theorem z8n {w:Wld} (hw:zah w=0) {k:Nat} (h:k<w.troops.length):1≤(w.troops.getD k default).life∧(w.troops.getD k default).life≤20:=by
 have h1:=(ze8 hw h).1
 have:=h1.life
 have k1:(zbh 1).life=10:=rfl
 have k2:(zbh 2).life=20:=rfl
 rcases h1.kind with e|e
 ·rw[e,k1]at this;omega
 ·rw[e,k2]at this;omega
theorem z2o (w:Wld) (l:List Blw) (hl:zdf w) (hll:l.length≤9223372036854775807) (h:zby w l≠0):Spec Tryz.prog 59 [zbk w,.c (.sl 2 (l.map zea))] [] (.tup [zbk (zfe w l),.c (.sl 1 ((zso w l).map zac)),I .i64 (zby w l)]) []:=by
 have e1:zfe w l=ydg:=by unfold zfe;rw[if_neg h]
 have e2:zso w l = []:=by unfold zso;rw[if_neg h]
 refine spB Tryz.func59 62 [.cell 4 28,.tmp 5,.tmp 6] Tryz.results59 ?_
 try refine xst ?_
 refine caP (zw3 w l hl hll) ?_
 try refine xst ?_
 refine cI (fun h1 => ?_) fun h1 => ?_
 ·try refine xst ?_
  (first|(refine zar rfl (Wk.of ?_);(try simp(etaStruct := .none)only[push_cast,zab,seval]);first|done|(simp[e1,e2,ydg, *];done)|(simp_all[e1,e2,ydg];done))|(refine zar rfl ?_;(try simp(etaStruct := .none)only[push_cast,zab,seval]);(try simp[e1,e2,ydg, *]);(try exact wkc)))
 ·exact absurd h1 h
theorem zsl (w:Wld) (l:List Blw) (hl:zdf w) (hll:l.length≤9223372036854775807) (h:zby w l=0):Spec Tryz.prog 59 [zbk w,.c (.sl 2 (l.map zea))] [] (.tup [zbk (zfe w l),.c (.sl 1 ((zso w l).map zac)),I .i64 (zby w l)]) []:=by
 have hw:zah w=0:=by unfold zby at h;split at h;rename_i h1;exact absurd h h1;rename_i h1;simpa using h1
 have w3:=(zcb hw).2.2.1
 have hr:zih w l=zp6 w l:=by unfold zih;rw[if_pos h]
 have hrl:(zp6 w l).length=w.troops.length:=by unfold zp6;rw[List.length_map]
 refine spB Tryz.func59 62 [.cell 4 28,.tmp 5,.tmp 6] Tryz.results59 ?_
 try refine xst ?_
 refine caP (zw3 w l hl hll) ?_
 try refine xst ?_
 refine cI (fun h1 => ?_) fun h1 => ?_
 ·exact absurd h h1
 ·try refine xst ?_
  refine caP (yfn w hw) ?_
  try refine xst ?_
  refine zas (fun k:Nat=>⟨[(32,I .i64 k),(31,I .i64 w.troops.length),(30,.c (.sl 7 (w.troops.map zaw))),(10,.own 2),(9,.own 3),(7,.c (.sl 1 ((zih w l).map zac))),(4,.ptr 1 0 0),(2,.ptr 0 0 0)],[(0,.blk 28 (zhq w)),(1,.blk 28 [I .i64 0,I .i64 0,.c (.v (.slice none 0 0)),.c (.v (.slice none 0 0)),.c (.v (.slice none 0 0)),.c (.v (.slice none 0 0)),.c (.v (.slice none 0 0)),I .i64 0,I .i64 0]),(2,.row 92 7 ((znf w l k).map zaw)),(3,.row 3 1 ((zmq w l k).map zac))],4⟩) (fun k:Nat=>k≤w.troops.length) (fun k:Nat=>w.troops.length-k) (0) (Nat.zero_le _) ((To.nil 9 3 1 rfl).trans (To.mk [0,1,2,3] rfl rfl (by decide) ?_ ?_)) ?_
  ·simp(etaStruct := .none)only[push_cast,zab,seval,znf,zmq,List.take_zero,List.map_nil,List.filter_nil]
  ·simp(etaStruct := .none)only[push_cast,zab,seval]
  rintro k hk
  try refine xst ?_
  refine cI (fun h2 => ?_) fun h2 => ?_
  ·have hlt:k<w.troops.length:=by omega
   have hrk:k<(zih w l).length:=by rw[hr,hrl];exact hlt
   have hrv:(zih w l).getD k default=ze5 w l (w.troops.getD k default).id:=by
    rw[hr,zad _ _ (by rw[hrl];exact hlt)]
    simp only[zp6,List.getElem_map];rw[zad _ _ hlt]
   have hb:=zum w l (w.troops.getD k default).id
   have hlb:=z8n hw hlt
   have st1:=zn9 w l hlt
   have st2:=zoc w l hlt
   have ll1:=zsf w l k
   have ll2:=zsp w l k
   have hwl:(zdi w l (w.troops.getD k default)).life=(w.troops.getD k default).life-ze5 w l (w.troops.getD k default).id:=rfl
   try refine xz5 (gd hlt) zae (gd hrk) hrv zak ?_
   (try(refine⟨by kernel_rfl,?_⟩))
   try refine xz5 (gd hlt) zae (gd hrk) hrv zak ?_
   refine cI (fun h3 => ?_) fun h3 => ?_
   ·rw[if_pos (by rw[hwl];exact h3)]at st1 st2
    rw[List.append_nil]at st2
    try refine xz5 (gd hlt) zae (gd hrk) hrv zak ?_
    refine⟨k+1,by omega,by omega,To.mk [0,1,42,3] rfl rfl (by decide) ?_ ?_⟩
    ·(iterate 2((try simp(etaStruct := .none)only[push_cast,zab,seval,st1,st2,List.map_append,zaw,zdi]);(try(refine xsu ?_;try exact xtI))))
    ·(try(refine xz5 (gd hlt) zae (gd hrk) hrv zak ?_;try exact xtI))
   ·rw[if_neg (by rw[hwl];omega)]at st1 st2
    rw[List.append_nil]at st1
    try refine xz5 (gd hlt) zae (gd hrk) hrv zak ?_
    refine⟨k+1,by omega,by omega,To.mk [0,1,2,42] rfl rfl (by decide) ?_ ?_⟩
    ·(iterate 2((try simp(etaStruct := .none)only[push_cast,zab,seval,st1,st2,List.map_append,zac]);(try(refine xsu ?_;try exact xtI))))
    ·(try(refine xz5 (gd hlt) zae (gd hrk) hrv zak ?_;try exact xtI))
  ·obtain rfl:k=w.troops.length:=by omega
   have e1:zfe w l=zc3 w l:=by unfold zfe;rw[if_pos h]
   have e2:zso w l=zyx w l:=by unfold zso;rw[if_pos h]
   rw[zsg,zsq,e1,e2]
   try refine xst ?_
   (first|(refine zar rfl (Wk.of ?_);(try simp(etaStruct := .none)only[push_cast,zab,seval]);first|done|(simp[zc3,h, *];done)|(simp_all[zc3,h];done))|(refine zar rfl ?_;(try simp(etaStruct := .none)only[push_cast,zab,seval]);(try simp[zc3,h, *]);(try exact wkc)))
theorem z0d (w:Wld) (l:List Blw) (hl:zdf w) (hw:zah w=0) (hll:l.length≤200):Spec Tryz.prog 89 [zbk w,.c (.sl 2 (l.map zea))] [] (.tup [zbk (zc3 w l),.c (.sl 1 ((zyx w l).map zac))]) []:=by
 have w3:=(zcb hw).2.2.1
 refine spB Tryz.func89 43 [.cell 4 28,.tmp 5] Tryz.results89 ?_
 try refine xst ?_
 refine zas (fun k:Nat=>⟨[(13,I .i64 k),(12,I .i64 w.troops.length),(11,.c (.sl 7 (w.troops.map zaw))),(7,.own 3),(6,.own 2),(4,.ptr 1 0 0),(2,.ptr 0 0 0),(1,.c (.sl 2 (l.map zea)))],[(0,.blk 28 (zhq w)),(1,.blk 28 [I .i64 0,I .i64 0,.c (.v (.slice none 0 0)),.c (.v (.slice none 0 0)),.c (.v (.slice none 0 0)),.c (.v (.slice none 0 0)),.c (.v (.slice none 0 0)),I .i64 0,I .i64 0]),(2,.row 92 7 ((znf w l k).map zaw)),(3,.row 3 1 ((zmq w l k).map zac))],4⟩) (fun k:Nat=>k≤w.troops.length) (fun k:Nat=>w.troops.length-k) (0) (Nat.zero_le _) (((To.nil 6 92 7 rfl).trans (To.nil 7 3 1 rfl)).trans (To.mk [0,1,2,3] rfl rfl (by decide) ?_ ?_)) ?_
 ·simp(etaStruct := .none)only[push_cast,zab,seval,znf,zmq,List.take_zero,List.map_nil,List.filter_nil]
 ·simp(etaStruct := .none)only[push_cast,zab,seval]
 rintro k hk
 try refine xst ?_
 refine cI (fun h1 => ?_) fun h1 => ?_
 ·have hlt:k<w.troops.length:=by omega
  have hb:=zum w l (w.troops.getD k default).id
  have hlb:=z8n hw hlt
  have st1:=zn9 w l hlt
  have st2:=zoc w l hlt
  have ll1:=zsf w l k
  have ll2:=zsp w l k
  have hwl:(zdi w l (w.troops.getD k default)).life=(w.troops.getD k default).life-ze5 w l (w.troops.getD k default).id:=rfl
  try refine xz2 (gd hlt) zae ?_
  refine caP (yfr w l (w.troops.getD k default).id hl hw hll) ?_
  try refine xz2 (gd hlt) zae ?_
  (try(refine⟨by kernel_rfl,?_⟩))
  try refine xz2 (gd hlt) zae ?_
  refine cI (fun h2 => ?_) fun h2 => ?_
  ·rw[if_neg (by rw[hwl];omega)]at st1 st2
   rw[List.append_nil]at st1
   try refine xz2 (gd hlt) zae ?_
   refine⟨k+1,by omega,by omega,To.mk [0,1,2,46] rfl rfl (by decide) ?_ ?_⟩
   ·(iterate 2((try simp(etaStruct := .none)only[push_cast,zab,seval,st1,st2,List.map_append,zac]);(try(refine xsu ?_;try exact xtI))))
   ·(try(refine xz2 (gd hlt) zae ?_;try exact xtI))
  ·rw[if_pos (by rw[hwl];omega)]at st1 st2
   rw[List.append_nil]at st2
   try refine xz2 (gd hlt) zae ?_
   refine⟨k+1,by omega,by omega,To.mk [0,1,46,3] rfl rfl (by decide) ?_ ?_⟩
   ·(iterate 2((try simp(etaStruct := .none)only[push_cast,zab,seval,st1,st2,List.map_append,zaw,zdi]);(try(refine xsu ?_;try exact xtI))))
   ·(try(refine xz2 (gd hlt) zae ?_;try exact xtI))
 ·obtain rfl:k=w.troops.length:=by omega
  rw[zsg,zsq]
  try refine xst ?_
  (first|(refine zar rfl (Wk.of ?_);(try simp(etaStruct := .none)only[push_cast,zab,seval]);first|done|(simp[zc3, *];done)|(simp_all[zc3];done))|(refine zar rfl ?_;(try simp(etaStruct := .none)only[push_cast,zab,seval]);(try simp[zc3, *]);(try exact wkc)))
end Go.Proofs.YtbapdgmcndgieaaGreat
namespace Go.Proofs.YtbapdgmcndgieaaGreat
set_option linter.all false
open Go.RowKit
set_option maxRecDepth 100000
def zgh (id:Int) (t:Trp):Bool:=decide (t.id=id)
def z4c (a b:Cel):Bool:=zap b.x (a.x-1) (a.x+1)&&zap b.y (a.y-1) (a.y+1)
def za1 (t:Trp) (n:Int):Trp:={ t with load:=n }
def zi5 (w:Wld) (i m:Nat):Wld:={ w with mines:=w.mines.set m (w.mines.getD m default-1),troops:=w.troops.set i (za1 (w.troops.getD i default) ((w.troops.getD i default).load+1)) }
def zcz (w:Wld) (d:Ded) (i:Nat):Bool:=decide ((w.troops.getD i default).kind=1)&&decide ((w.troops.getD i default).load<5)&&z4c (w.troops.getD i default).c d.c&&inF w.f d.c&&decide (0<w.mines.getD (zau w.f d.c) default)
def ze0 (w:Wld) (i:Nat):Int:=min (w.troops.getD i default).load (1000000-w.stocks.getD (w.troops.getD i default).owner.toNat default)
def zef (w:Wld) (i:Nat):Wld:={ w with stocks:=w.stocks.set (w.troops.getD i default).owner.toNat (w.stocks.getD (w.troops.getD i default).owner.toNat default+ze0 w i),troops:=w.troops.set i (za1 (w.troops.getD i default) ((w.troops.getD i default).load-ze0 w i)) }
def zh2 (w:Wld) (i:Nat):Bool:=z4c (w.bases.getD (w.troops.getD i default).owner.toNat default) (w.troops.getD i default).c
def zc1 (b:Cel):List Cel := [b,⟨b.x-1,b.y-1⟩,⟨b.x,b.y-1⟩,⟨b.x+1,b.y-1⟩,⟨b.x-1,b.y⟩,b,⟨b.x+1,b.y⟩,⟨b.x-1,b.y+1⟩,⟨b.x,b.y+1⟩,⟨b.x+1,b.y+1⟩]
def zj7 (w:Wld) (c:Cel):Bool:=zbw w.f c && !(w.troops.any fun t=>decide (t.c=c))
def zng (w:Wld) (b:Cel):Option Cel:=(zc1 b).find? (zj7 w)
def zfs (w:Wld) (d:Ded):Bool:=decide (0≤d.who)&&decide (d.who<w.bases.length)&&(decide (d.what=1)||decide (d.what=2))&&decide ((zbh d.what).price≤w.stocks.getD d.who.toNat default)&&decide (w.troops.length<100)&&decide (w.next<1000000)
def zdm (w:Wld) (d:Ded) (c:Cel):Wld:={ w with troops:=w.troops ++ [⟨w.next,d.who,d.what,c,(zbh d.what).life,0⟩],next:=w.next+1,stocks:=w.stocks.set d.who.toNat (w.stocks.getD d.who.toNat default-(zbh d.what).price) }
def ze1 (w:Wld) (d:Ded):Wld × Bool :=
 if d.kind=1 then match w.troops.findIdx? (zgh d.who)with
  | some i=>if zcz w d i then (zi5 w i (zau w.f d.c),true)else (w,false)
  | none=>(w,false)
 else if d.kind=2 then match w.troops.findIdx? (zgh d.who)with
  | some i=>if zh2 w i then (zef w i,decide (0<ze0 w i))else (w,false)
  | none=>(w,false)
 else if d.kind=3 then (if zfs w d then match zng w (w.bases.getD d.who.toNat default)with
  | some c=>(zdm w d c,true)
  | none=>(w,false)
  else (w,false))
 else (w,false)
theorem ztj {w:Wld} {t:Trp} {n:Int} (h:TrpOk w t) (hn:0≤n∧n≤5*(2-t.kind)):TrpOk w (za1 t n):=ziq h.kind h.id h.owner h.at_ h.life hn
theorem zn2 {w:Wld} (h:Right w) {i:Nat} (hi:i<w.troops.length):∃o:Nat,(w.troops.getD i default).owner=(o:Int)∧o<w.bases.length∧o<w.stocks.length:=by
 have:=(h.trp i hi).owner
 have hs:=h.sl
 refine⟨(w.troops.getD i default).owner.toNat,by omega,by omega,by omega⟩
theorem z2m {w:Wld} (h:Right w) {c:Cel} (hc:inF w.f c=true):zau w.f c<w.mines.length∧c.y*w.f.w+c.x=((zau w.f c:Nat):Int)∧0≤c.y*w.f.w∧c.y*w.f.w≤1600:=by
 obtain⟨i1,i2,i3,i4,i5⟩:=za8 h.f hc
 have:=h.ml
 unfold zau;omega
theorem znw {w:Wld} (h:Right w) {i:Nat} (hi:i<w.troops.length) {n:Int} (hn:0≤n∧n≤5*(2-(w.troops.getD i default).kind)) {st mi:List Int} (hs:st.length=w.stocks.length) (hm:mi.length=w.mines.length) (hs2:∀j,j<st.length→0≤st.getD j default∧st.getD j default≤1000000) (hm2:∀j,j<mi.length→(0≤mi.getD j default∧mi.getD j default≤1000000)∧(mi.getD j default=0∨w.f.p.getD j default=3)) :
 Right { w with stocks:=st,mines:=mi,troops:=w.troops.set i (za1 (w.troops.getD i default) n) }:=by
 have G:=fun p=>zjd (za1 (w.troops.getD i default) n) p hi
 refine⟨h.f,h.nb,by simpa using h.nt,by rw[hs];exact h.sl,by rw[hm];exact h.ml,h.nx,h.nw,fun j hj => ?_,hm2,fun k hk => ?_,fun j k hjk hk => ?_⟩
 ·obtain⟨a1,_,a3⟩:=h.base j hj
  exact⟨a1,hs2 j (by rw[hs,h.sl];exact hj),a3⟩
 ·have hk':k<w.troops.length:=by simpa using hk
  have e:∀t,TrpOk w t→TrpOk { w with stocks:=st,mines:=mi,troops:=w.troops.set i (za1 (w.troops.getD i default) n) } t:=fun t ht=>⟨ht.kind,ht.id,ht.owner,ht.at_,ht.x,ht.y,ht.life,ht.load⟩
  simp only[G]
  split
  ·exact e _ (ztj (h.trp i hi) hn)
  ·exact e _ (h.trp k hk')
 ·have hk':k<w.troops.length:=by simpa using hk
  have:=h.ord j k hjk hk'
  simp only[G]
  have f1:∀m,(if m=i then za1 (w.troops.getD i default) n else w.troops.getD m default).id=(w.troops.getD m default).id∧(if m=i then za1 (w.troops.getD i default) n else w.troops.getD m default).c=(w.troops.getD m default).c:=fun m=>by
   split
   ·rename_i e;subst e;exact⟨rfl,rfl⟩
   ·exact⟨rfl,rfl⟩
  rw[(f1 j).1,(f1 k).1,(f1 j).2,(f1 k).2];exact this
theorem zya {w:Wld} (h:Right w) {i:Nat} (hi:i<w.troops.length) {d:Ded} (ho:zcz w d i=true):Right (zi5 w i (zau w.f d.c)):=by
 unfold zcz at ho
 simp only[Bool.and_eq_true,decide_eq_true_eq]at ho
 obtain⟨⟨⟨⟨o1,o2⟩,_⟩,o4⟩,o5⟩:=ho
 obtain⟨m1,_⟩:=z2m h o4
 have hl:=(h.trp i hi).load
 have G:=fun p=>zjd (w.mines.getD (zau w.f d.c) default-1) p m1
 refine znw h hi (by omega) rfl (by simp) (fun j hj=>(h.base j (by rw[←h.sl];exact hj)).2.1) (fun j hj => ?_)
 have hj':j<w.mines.length:=by simpa using hj
 rw[G]
 split
 ·rename_i e;subst e
  obtain⟨a1,a2⟩:=h.mine _ hj'
  exact⟨by omega,by rcases a2 with a2|a2;omega;exact .inr a2⟩
 ·exact h.mine j hj'
theorem zqh {w:Wld} (h:Right w) {i:Nat} (hi:i<w.troops.length):0≤ze0 w i∧ze0 w i≤(w.troops.getD i default).load∧w.stocks.getD (w.troops.getD i default).owner.toNat default+ze0 w i≤1000000∧0≤w.stocks.getD (w.troops.getD i default).owner.toNat default:=by
 obtain⟨o,e,ho,hs⟩:=zn2 h hi
 have hl:=(h.trp i hi).load
 have hb:=(h.base o ho).2.1
 have e2:(w.troops.getD i default).owner.toNat=o:=by omega
 unfold ze0
 rw[e2];omega
theorem zyc {w:Wld} (h:Right w) {i:Nat} (hi:i<w.troops.length):Right (zef w i):=by
 obtain⟨o,e,ho,hs⟩:=zn2 h hi
 have e2:(w.troops.getD i default).owner.toNat=o:=by omega
 have hl:=(h.trp i hi).load
 have hn:=zqh h hi
 unfold zef
 rw[e2]at hn ⊢
 have G:=fun p=>zjd (w.stocks.getD o default+ze0 w i) p hs
 refine znw h hi (by omega) (by simp) rfl (fun j hj => ?_) (fun j hj=>h.mine j hj)
 rw[G]
 split
 ·omega
 ·exact(h.base j (by rw[←h.sl];simpa using hj)).2.1
theorem hireOk_iff {w:Wld} {d:Ded} : zfs w d=true↔((((0≤d.who∧d.who<w.bases.length)∧(d.what=1∨d.what=2))∧(zbh d.what).price≤w.stocks.getD d.who.toNat default)∧w.troops.length<100)∧w.next<1000000:=by
 unfold zfs
 simp only[Bool.and_eq_true,Bool.or_eq_true,decide_eq_true_eq]
theorem z0o {α : Type} [Inhabited α] (l:List α) (x : α) (k:Nat):(l ++ [x]).getD k default=if k<l.length then l.getD k default else if k=l.length then x else default:=by
 by_cases h:k<l.length
 ·rw[if_pos h,zmr _ _ _ h]
 ·rw[if_neg h]
  by_cases h2:k=l.length
  ·subst h2;rw[if_pos rfl,zad _ _ (by simp)];simp
  ·rw[if_neg h2];simp only[List.getD_eq_getElem?_getD];rw[List.getElem?_eq_none (by simp;omega)];rfl
theorem zyb {w:Wld} (h:Right w) {d:Ded} (ho:zfs w d=true) {c:Cel} (hc:zj7 w c=true):Right (zdm w d c):=by
 obtain⟨⟨⟨⟨⟨o1,o2⟩,o3⟩,o4⟩,o5⟩,o6⟩:=hireOk_iff.1 ho
 unfold zj7 at hc
 simp only[Bool.and_eq_true,Bool.not_eq_true',List.any_eq_false,decide_eq_true_eq]at hc
 obtain⟨c1,c2⟩:=hc
 have hs:d.who.toNat<w.stocks.length:=by rw[h.sl];omega
 have G:=fun p=>zjd (w.stocks.getD d.who.toNat default-(zbh d.what).price) p hs
 have hp:0≤(zbh d.what).price:=by rcases o3 with e|e<;>rw[e]<;>decide
 have hx:=h.nx
 have T:=fun k=>z0o w.troops (⟨w.next,d.who,d.what,c,(zbh d.what).life,0⟩:Trp) k
 refine⟨h.f,h.nb,by simp only[zdm,List.length_append,List.length_cons,List.length_nil];omega,by simp only[zdm,List.length_set];exact h.sl,h.ml,by simp only[zdm];omega,h.nw,fun j hj => ?_,h.mine,fun k hk => ?_,fun j k hjk hk => ?_⟩
 ·obtain⟨a1,a2,a3⟩:=h.base j hj
  refine⟨a1,?_,a3⟩
  simp only[zdm,G]
  split
  ·rename_i e;subst e;omega
  ·exact a2
 ·simp only[zdm,List.length_append,List.length_cons,List.length_nil]at hk
  simp only[zdm,T]
  split
  ·rename_i hk2
   have ok:=h.trp k hk2
   exact ziq ok.kind ⟨ok.id.1,by have:=ok.id.2;simp only;omega⟩ ok.owner ok.at_ ok.life ok.load
  ·rw[if_pos (by omega)]
   refine ziq o3 ⟨hx.1,by simp only;omega⟩ ⟨o1,by simp only;omega⟩ c1 ⟨?_,Int.le_refl _⟩ ⟨Int.le_refl _,?_⟩
   ·rcases o3 with e|e<;>simp only<;>rw[e]<;>decide
   ·simp only;omega
 ·simp only[zdm,List.length_append,List.length_cons,List.length_nil]at hk
  simp only[zdm,T]
  rw[if_pos (show j<w.troops.length by omega)]
  split
  ·rename_i hk2
   exact h.ord j k hjk hk2
  ·have hj:j<w.troops.length:=by omega
   rw[if_pos (by omega)]
   have ok:=(h.trp j hj).id
   refine⟨by simp only;omega,fun e => ?_⟩
   exact c2 _ (za9 _ _ hj) e
theorem zf9 {w:Wld} {id:Int} {i:Nat} (h:w.troops.findIdx? (zgh id)=some i):i<w.troops.length:=by
 obtain⟨hi,_⟩:=List.findIdx?_eq_some_iff_getElem.1 h
 exact hi
theorem zyd {w:Wld} (h:Right w) (d:Ded):Right (ze1 w d).1:=by
 unfold ze1
 split
 ·split
  ·rename_i i hi
   split
   ·rename_i ho;exact zya h (zf9 hi) ho
   ·exact h
  ·exact h
 ·split
  ·split
   ·rename_i i hi
    split
    ·exact zyc h (zf9 hi)
    ·exact h
   ·exact h
  ·split
   ·split
    ·rename_i ho
     split
     ·rename_i c hc;exact zyb h ho (List.find?_some hc)
     ·exact h
    ·exact h
   ·exact h
def za6 (w:Wld):List Ded→Wld × List Bool
 | []=>(w,[])
 | d::r=>((za6 (ze1 w d).1 r).1,(ze1 w d).2::(za6 (ze1 w d).1 r).2)
theorem zmy (l:List Ded) (d:Ded):∀w,za6 w (l ++ [d])=((ze1 (za6 w l).1 d).1,(za6 w l).2 ++ [(ze1 (za6 w l).1 d).2]):=by
 induction l with
 | nil=>intro w;rfl
 | cons a r ih=>intro w;simp only[List.cons_append,za6];rw[ih]
theorem zh7 (l:List Ded):∀ {w:Wld},Right w→Right (za6 w l).1:=by
 induction l with
 | nil=>intro w h;exact h
 | cons a r ih=>intro w h;exact ih (zyd h a)
theorem zoh (l:List Ded):∀w,(za6 w l).2.length=l.length:=by
 induction l with
 | nil=>intro w;rfl
 | cons a r ih=>intro w;simp only[za6,List.length_cons,ih]
end Go.Proofs.YtbapdgmcndgieaaGreat
namespace Go.Proofs.YtbapdgmcndgieaaGreat
set_option linter.all false
open Go.RowKit
set_option maxRecDepth 100000
set_option maxHeartbeats 1000000
theorem zp9 {α : Type} (l:List α) (i:Nat) (d : α) (h:i<l.length):l.getD i d=l[i]:=by simp[h]
abbrev zkc (d:Ded):AV := .agg [I .i64 d.kind,I .i64 d.who,I .i64 d.c.x,I .i64 d.c.y,I .i64 d.what]
abbrev z4z (w:Wld) (i j k:Nat):List AV := [I .i64 w.f.w,I .i64 w.f.h,.c (.sl 1 (w.f.p.map zac)),.c (.sl 2 (w.bases.map zaz)),.own i,.own j,.own k,I .i64 w.next,I .i64 w.now]
abbrev stR (w:Wld):Chunk := .row 3 1 (w.stocks.map zac)
abbrev miR (w:Wld):Chunk := .row 3 1 (w.mines.map zac)
abbrev trR (w:Wld):Chunk := .row 92 7 (w.troops.map zaw)
abbrev zgf (w:Wld):List Chunk := [.blk 213 (z4z w 1 2 3),stR w,miR w,trR w]
theorem yfs (id:Int) (t:Trp):Spec Tryz.prog 203 ([] ++ [z38 t] ++ [.fel 1 [[pI id]] 0 0]) [] (B (zgh id t)) []:=by
 refine spB Tryz.func203 8 [.tmp 3] Tryz.results203 ?_
 try refine xst ?_
 (first|(refine zar rfl (Wk.of ?_);(try simp(etaStruct := .none)only[push_cast,zab,seval]);first|done|(simp[zgh, *];done)|(simp_all[zgh];done))|(refine zar rfl ?_;(try simp(etaStruct := .none)only[push_cast,zab,seval]);(try simp[zgh, *]);(try exact wkc)))
theorem zw7 (w:Wld) (id:Int) (hw:Right w) (h:w.troops.findIdx? (zgh id)=none):Spec Tryz.prog 194 [.ptr 0 0 0,I .i64 id] (zgf w) (.c (.v (.pointer none))) (zgf w):=by
 have hz:ze4 (zgh id) w.troops = -1:=by unfold ze4;rw[h]
 have hnt:=hw.nt
 refine spB Tryz.func194 22 [.tmp 4] Tryz.results194 ?_
 try refine xst ?_
 refine zbv (zhx _ [] [.fel 1 [[pI id]] 0 0] w.troops (zgh id) (by omega) (fun t _=>yfs id t) (fun _=>rfl) (fun _=>rfl)) (WkL.refl _) rfl ?_
 rw[hz]
 try refine xst ?_
 refine cI (fun h1 => ?_) fun h1 => ?_
 ·try refine xst ?_
  refine zco [0,1,2,3] rfl rfl (by decide) ⟨?_,?_,?_,?_,trivial⟩ trivial ?_<;>simp(etaStruct := .none)only[push_cast,zab,seval]
 ·exact absurd h1 (by decide)
theorem zw6 (w:Wld) (id:Int) (i:Nat) (hw:Right w) (h:w.troops.findIdx? (zgh id)=some i):Spec Tryz.prog 194 [.ptr 0 0 0,I .i64 id] (zgf w) (.ptr 3 i 0) (zgf w):=by
 have hz:ze4 (zgh id) w.troops=(i:Int):=by unfold ze4;rw[h]
 have hnt:=hw.nt
 have hi:=zf9 h
 refine spB Tryz.func194 22 [.tmp 4] Tryz.results194 ?_
 try refine xst ?_
 refine zbv (zhx _ [] [.fel 1 [[pI id]] 0 0] w.troops (zgh id) (by omega) (fun t _=>yfs id t) (fun _=>rfl) (fun _=>rfl)) (WkL.refl _) rfl ?_
 rw[hz]
 try refine xst ?_
 refine cI (fun h1 => ?_) fun h1 => ?_
 ·omega
 ·try refine xst ?_
  refine zco [0,1,2,3] rfl rfl (by decide) ⟨?_,?_,?_,?_,trivial⟩ trivial ?_<;>simp(etaStruct := .none)only[push_cast,zab,seval]
theorem z8t (a b:Cel) (ha : -1000000≤a.x∧a.x≤1000000 ∧ -1000000≤a.y∧a.y≤1000000):Spec Tryz.prog 195 [zem a,zem b] [] (B (z4c a b)) []:=by
 refine spB Tryz.func195 35 [.tmp 4] Tryz.results195 ?_
 try refine xst ?_
 (first|(refine zar rfl (Wk.of ?_);(try simp(etaStruct := .none)only[push_cast,zab,seval]);first|done|(simp[z4c,zap,Bool.and_assoc, *];done)|(simp_all[z4c,zap,Bool.and_assoc];done))|(refine zar rfl ?_;(try simp(etaStruct := .none)only[push_cast,zab,seval]);(try simp[z4c,zap,Bool.and_assoc, *]);(try exact wkc)))
theorem zyy (w:Wld) (d:Ded) (hw:Right w) (h:w.troops.findIdx? (zgh d.who)=none):Spec Tryz.prog 176 [.ptr 0 0 0,zkc d] (zgf w) (B false) (zgf w):=by
 refine spB Tryz.func176 88 [.tmp 4] Tryz.results176 ?_
 try refine xst ?_
 refine caM [0,1,2,3] (zw7 w d.who hw h) ?_
 try refine xst ?_
 refine zje ?_ ?_
 ·rfl
 try refine xst ?_
 (try(refine⟨by kernel_rfl,?_⟩))
 try refine xst ?_
 refine cI (fun h1 => ?_) fun h1 => ?_
 ·try refine xst ?_
  refine zco [0,1,2,3] rfl rfl (by decide) ⟨?_,?_,?_,?_,trivial⟩ trivial ?_<;>simp(etaStruct := .none)only[push_cast,zab,seval]
 ·exact absurd h1 (by decide)
theorem z21 (w:Wld) (d:Ded) (i:Nat) (hw:Right w) (h:w.troops.findIdx? (zgh d.who)=some i) (b:Bool) (W:Wld) (hW:(zcz w d i=true→W=zi5 w i (zau w.f d.c)∧b=true)∧(zcz w d i=false→W=w∧b=false)):Spec Tryz.prog 176 [.ptr 0 0 0,zkc d] (zgf w) (B b) (zgf W):=by
 have hi:=zf9 h
 have ok:=hw.trp i hi
 have hav:atV w.f d.c=if inF w.f d.c then (zag w.f d.c,0)else (0,7):=by unfold atV;rw[if_neg (by simp[hw.f])]
 have hx:=ok.x;have hy:=ok.y
 have hfl:=zba hw.f
 have hld:=ok.load
 refine spB Tryz.func176 88 [.tmp 4] Tryz.results176 ?_
 try refine xz2 (gd hi) zae ?_
 refine caM [0,1,2,3] (zw6 w d.who i hw h) ?_
 try refine xz2 (gd hi) zae ?_
 refine gcP (fun hcc=>z8t (w.troops.getD i default).c d.c (by omega)) ?_
 try refine xz2 (gd hi) zae ?_
 (try(refine⟨by kernel_rfl,?_⟩))
 try refine xz2 (gd hi) zae ?_
 refine cI (fun h1 => ?_) fun h1 => ?_
 ·have e:zcz w d i=false:=by
   unfold zcz
   simp only[Bool.and_eq_false_iff,decide_eq_false_iff_not]
   rcases h1 with (h1|h1)|h1
   ·exact .inl (.inl (.inl (.inl (by omega))))
   ·exact .inl (.inl (.inl (.inr (by omega))))
   ·exact .inl (.inl (.inr h1))
  obtain⟨rfl,rfl⟩:=hW.2 e
  try refine xz2 (gd hi) zae ?_
  refine zco [0,1,2,3] rfl rfl (by decide) ⟨?_,?_,?_,?_,trivial⟩ trivial ?_<;>simp(etaStruct := .none)only[push_cast,zab,seval,zi5,za1,List.map_set,zac,zaw]
 ·try refine xz2 (gd hi) zae ?_
  refine caP (zzk w.f d.c hw.l.1) ?_
  rw[hav]
  try refine xz2 (gd hi) zae ?_
  (try(refine⟨by kernel_rfl,?_⟩))
  try refine xz2 (gd hi) zae ?_
  refine cI (fun h2 => ?_) fun h2 => ?_
  ·have hin:inF w.f d.c=false:=by
    cases hc:inF w.f d.c with
    | false=>rfl
    | true=>rw[hc]at h2;simp at h2
   have e:zcz w d i=false:=by unfold zcz;rw[hin];simp
   obtain⟨rfl,rfl⟩:=hW.2 e
   try refine xz2 (gd hi) zae ?_
   refine zco [0,1,2,3] rfl rfl (by decide) ⟨?_,?_,?_,?_,trivial⟩ trivial ?_<;>simp(etaStruct := .none)only[push_cast,zab,seval,zi5,za1,List.map_set,zac,zaw]
  ·have hin:inF w.f d.c=true:=by
    cases hc:inF w.f d.c with
    | true=>rfl
    | false=>rw[hc]at h2;simp at h2
   obtain⟨m1,m2,m3,m4⟩:=z2m hw hin
   obtain⟨m,hm⟩:∃m,m=zau w.f d.c:=⟨_,rfl⟩
   rw[←hm]at m1 m2
   have hml:=hw.ml
   have hpl:=hw.places
   have ew1:IntKind.i64.wrap (IntKind.i64.wrap (d.c.y*w.f.w)+d.c.x)=(m:Int):=by rw[zaq (d.c.y*w.f.w) (by omega) (by omega),zaq _ (by omega) (by omega)];exact m2
   have hmb:=(hw.mine m m1).1
   try refine xz5 (gd hi) zae ew1 (gd m1) zak ?_
   (try(refine⟨by kernel_rfl,?_⟩))
   try refine xz5 (gd hi) zae ew1 (gd m1) zak ?_
   refine cI (fun h3 => ?_) fun h3 => ?_
   ·have e:zcz w d i=false:=by
     unfold zcz
     rw[←hm,h3];simp
    obtain⟨rfl,rfl⟩:=hW.2 e
    try refine xz5 (gd hi) zae ew1 (gd m1) zak ?_
    refine zco [0,1,2,3] rfl rfl (by decide) ⟨?_,?_,?_,?_,trivial⟩ trivial ?_<;>simp(etaStruct := .none)only[push_cast,zab,seval,zi5,za1,List.map_set,zac,zaw]
   ·have e:zcz w d i=true:=by
     unfold zcz
     rw[←hm,hin]
     simp only[Bool.and_eq_true,decide_eq_true_eq]
     exact⟨⟨⟨⟨by omega,by omega⟩,h1.2⟩,trivial⟩,by omega⟩
    obtain⟨rfl,rfl⟩:=hW.1 e
    rw[←hm]
    try refine xz5 (gd hi) zae ew1 (gd m1) zak ?_
    refine zco [0,1,2,3] rfl rfl (by decide) ⟨?_,?_,?_,?_,trivial⟩ trivial ?_<;>simp(etaStruct := .none)only[push_cast,zab,seval,zi5,za1,List.map_set,zac,zaw]
theorem zyz (w:Wld) (d:Ded) (hw:Right w) (h:w.troops.findIdx? (zgh d.who)=none):Spec Tryz.prog 177 [.ptr 0 0 0,zkc d] (zgf w) (B false) (zgf w):=by
 refine spB Tryz.func177 80 [.tmp 4] Tryz.results177 ?_
 try refine xst ?_
 refine caM [0,1,2,3] (zw7 w d.who hw h) ?_
 try refine xst ?_
 refine zje ?_ ?_
 ·rfl
 try refine xst ?_
 (try(refine⟨by kernel_rfl,?_⟩))
 try refine xst ?_
 refine cI (fun h1 => ?_) fun h1 => ?_
 ·try refine xst ?_
  refine zco [0,1,2,3] rfl rfl (by decide) ⟨?_,?_,?_,?_,trivial⟩ trivial ?_<;>simp(etaStruct := .none)only[push_cast,zab,seval]
 ·exact absurd h1 (by decide)
theorem drop_zero {w:Wld} (hw:Right w) {i:Nat} (hi:i<w.troops.length) (h:(w.troops.getD i default).load=0):ze0 w i=0∧zef w i=w:=by
 have hn:=zqh hw hi
 have h0:ze0 w i=0:=by omega
 obtain⟨o,e,ho,hs⟩:=zn2 hw hi
 refine⟨h0,?_⟩
 unfold zef
 rw[h0,Int.add_zero,Int.sub_zero,zky _ _ (by omega)]
 have:za1 (w.troops.getD i default) (w.troops.getD i default).load=w.troops.getD i default:=rfl
 rw[this,zky _ _ hi]
theorem z25 (w:Wld) (d:Ded) (i:Nat) (hw:Right w) (h:w.troops.findIdx? (zgh d.who)=some i) (b:Bool) (W:Wld) (hW:(zh2 w i=true→W=zef w i∧b=decide (0<ze0 w i))∧(zh2 w i=false→W=w∧b=false)):Spec Tryz.prog 177 [.ptr 0 0 0,zkc d] (zgf w) (B b) (zgf W):=by
 have hi:=zf9 h
 have ok:=hw.trp i hi
 obtain⟨o,eo,ho,hs⟩:=zn2 hw hi
 have hn:=zqh hw hi
 have hb:=hw.base o ho
 have hbx:=inF_iff.1 (ground_iff.1 hb.1).1
 have hfl:=zba hw.f
 have hld:=ok.load
 have eo2:(w.troops.getD i default).owner.toNat=o:=by omega
 have edN:ze0 w i=min (w.troops.getD i default).load (1000000-w.stocks.getD o default):=by unfold ze0;rw[eo2]
 have ew1:IntKind.i64.wrap (1000000-w.stocks.getD o default)=1000000-w.stocks.getD o default:=zaq _ (by omega) (by omega)
 have emn:(if 1000000-w.stocks.getD o default<(w.troops.getD i default).load then 1000000-w.stocks.getD o default else (w.troops.getD i default).load)=ze0 w i:=by rw[edN];split<;>omega
 rw[eo2]at hn
 have ew3:IntKind.i64.wrap ((w.troops.getD i default).load-ze0 w i)=(w.troops.getD i default).load-ze0 w i:=zaq _ (by rcases ok.kind with k|k<;>omega) (by rcases ok.kind with k|k<;>omega)
 have setg:∀x:List PV,((w.troops.map zaw).set i x).getD i []=x:=fun x=>by rw[zp9 _ _ _ (by simpa using hi)];simp
 refine spB Tryz.func177 80 [.tmp 4] Tryz.results177 ?_
 iterate 2(try simp(etaStruct := .none)only[push_cast,zab,seval,setg,zaa _ _ _ hi,zaw,eo,zaa _ _ _ ho,zaz,zaa _ _ _ hs,zac,ew1,emn];try refine xsu ?_)
 refine caM [0,1,2,3] (zw6 w d.who i hw h) ?_
 iterate 2(try simp(etaStruct := .none)only[push_cast,zab,seval,setg,zaa _ _ _ hi,zaw,eo,zaa _ _ _ ho,zaz,zaa _ _ _ hs,zac,ew1,emn];try refine xsu ?_)
 refine gcP (fun hcc=>z8t (w.bases.getD o default) (w.troops.getD i default).c (by omega)) ?_
 iterate 2(try simp(etaStruct := .none)only[push_cast,zab,seval,setg,zaa _ _ _ hi,zaw,eo,zaa _ _ _ ho,zaz,zaa _ _ _ hs,zac,ew1,emn];try refine xsu ?_)
 (try(refine⟨by kernel_rfl,?_⟩))
 iterate 2(try simp(etaStruct := .none)only[push_cast,zab,seval,setg,zaa _ _ _ hi,zaw,eo,zaa _ _ _ ho,zaz,zaa _ _ _ hs,zac,ew1,emn];try refine xsu ?_)
 refine cI (fun h1 => ?_) fun h1 => ?_
 ·have hd:W=w∧b=false:=by
   rcases h1 with h1|h1
   ·obtain⟨z1,z2⟩:=drop_zero hw hi h1
    cases hk:zh2 w i with
    | true=>obtain⟨q1,q2⟩:=hW.1 hk;rw[q1,q2,z1,z2];exact⟨rfl,rfl⟩
    | false=>exact hW.2 hk
   ·exact hW.2 (by unfold zh2;rw[eo2];exact h1)
  obtain⟨rfl,rfl⟩:=hd
  iterate 2(try simp(etaStruct := .none)only[push_cast,zab,seval,setg,zaa _ _ _ hi,zaw,eo,zaa _ _ _ ho,zaz,zaa _ _ _ hs,zac,ew1,emn];try refine xsu ?_)
  refine zco [0,1,2,3] rfl rfl (by decide) ⟨?_,?_,?_,?_,trivial⟩ trivial ?_
  ·simp(etaStruct := .none)only[push_cast,zab,seval,zef]
  ·simp(etaStruct := .none)only[push_cast,zab,seval,zef,eo2,List.map_set,zac]
  ·simp(etaStruct := .none)only[push_cast,zab,seval,zef]
  ·simp(etaStruct := .none)only[push_cast,zab,seval,zef,za1,List.map_set,zaw,eo,ew3]
  ·simp(etaStruct := .none)only[push_cast,zab,seval]
 ·obtain⟨rfl,rfl⟩:=hW.1 (by unfold zh2;rw[eo2];exact h1.2)
  iterate 2(try simp(etaStruct := .none)only[push_cast,zab,seval,setg,zaa _ _ _ hi,zaw,eo,zaa _ _ _ ho,zaz,zaa _ _ _ hs,zac,ew1,emn];try refine xsu ?_)
  (try(refine⟨by kernel_rfl,?_⟩))
  iterate 2(try simp(etaStruct := .none)only[push_cast,zab,seval,setg,zaa _ _ _ hi,zaw,eo,zaa _ _ _ ho,zaz,zaa _ _ _ hs,zac,ew1,emn];try refine xsu ?_)
  (try(refine⟨by kernel_rfl,?_⟩))
  iterate 2(try simp(etaStruct := .none)only[push_cast,zab,seval,setg,zaa _ _ _ hi,zaw,eo,zaa _ _ _ ho,zaz,zaa _ _ _ hs,zac,ew1,emn];try refine xsu ?_)
  refine zco [0,1,2,3] rfl rfl (by decide) ⟨?_,?_,?_,?_,trivial⟩ trivial ?_
  ·simp(etaStruct := .none)only[push_cast,zab,seval,zef]
  ·simp(etaStruct := .none)only[push_cast,zab,seval,zef,eo2,List.map_set,zac]
  ·simp(etaStruct := .none)only[push_cast,zab,seval,zef]
  ·simp(etaStruct := .none)only[push_cast,zab,seval,zef,za1,List.map_set,zaw,eo,ew3]
  ·simp(etaStruct := .none)only[push_cast,zab,seval]
theorem ztn (F:FuncId) (a b:List AV) (l:List Trp) (p:Trp→Bool) (hl:l.length≤9223372036854775807) (hp:∀n∈l,Spec Tryz.prog F (a ++ [z38 n]++b) [] (B (p n)) []) (ha:∀h,cvL [] h a=a) (hb:∀h,cvL [] h b=b) :
 Spec Tryz.prog 124 [.c (.sl 7 (l.map zaw)),.clo (.func F) a b] [] (B (l.any p)) []:=by
 refine spB Tryz.func124 9 [.tmp 4] Tryz.results124 ?_
 simp(etaStruct := .none)only[push_cast,zab,seval]
 refine zct (zhx F a b l p hl hp ha hb) (by simp only[ha,hb,cvL,cv];exact WkL.refl _) ?_
 simp(etaStruct := .none)only[push_cast,zab,seval]
 exact zbe rfl trivial (Wk.of (by rw[zhi];rfl))
theorem yi8 (t:Trp) (c:Cel):Spec Tryz.prog 204 ([] ++ [z38 t] ++ [.fel 2 [[pI c.x,pI c.y]] 0 0]) [] (B (decide (t.c=c))) []:=by
 refine spB Tryz.func204 8 [.tmp 3] Tryz.results204 ?_
 try refine xz1 zbz ?_
 exact xrz rfl
theorem zs9 (b:Cel) {i j:Nat} (hi:i<3) (hj:j<3):(zc1 b).getD (1+3*i+j) default=⟨b.x+((j:Int)-1),b.y+((i:Int)-1)⟩:=by
 have h1:i=0∨i=1∨i=2:=by omega
 have h2:j=0∨j=1∨j=2:=by omega
 obtain⟨x,y⟩:=b
 have e1:x+(((1:Nat):Int)-1)=x:=by omega
 have e2:y+(((1:Nat):Int)-1)=y:=by omega
 have e3:x+(((0:Nat):Int)-1)=x-1:=by omega
 have e4:y+(((0:Nat):Int)-1)=y-1:=by omega
 have e5:x+(((2:Nat):Int)-1)=x+1:=by omega
 have e6:y+(((2:Nat):Int)-1)=y+1:=by omega
 rcases h1 with rfl|rfl|rfl<;>rcases h2 with rfl|rfl|rfl<;>simp only[e1,e2,e3,e4,e5,e6]<;>rfl
theorem zu6 (b:Cel) {i j:Nat} (hi:i<3) (hj:j<3):(zc1 b).take (1+3*i+(j+1))=(zc1 b).take (1+3*i+j) ++ [(⟨b.x+((j:Int)-1),b.y+((i:Int)-1)⟩:Cel)]:=by
 rw[←zs9 b hi hj]
 change (zc1 b).take ((1+3*i+j)+1)=_
 exact zav _ _ (by rw[show (zc1 b).length=10 from rfl];omega)
theorem z24 (w:Wld) (b:Cel) (hw:Right w) (hb : -1000≤b.x∧b.x≤1000 ∧ -1000≤b.y∧b.y≤1000) (c:Cel) (q:Bool) (h:(∀c',zng w b=some c'→c=c'∧q=true)∧(zng w b=none→c=⟨0,0⟩∧q=false)):Spec Tryz.prog 196 [.ptr 0 0 0,zem b] (zgf w) (.tup [zem c,B q]) (zgf w):=by
 have hal:(zc1 b).length=10:=rfl
 have hnt:=hw.nt
 have hav:∀c,atV w.f c=if inF w.f c then (zag w.f c,0)else (0,7):=fun c=>by unfold atV;rw[if_neg (by simp[hw.f])]
 refine spB Tryz.func196 70 [.cell 4 41,.tmp 5] Tryz.results196 ?_
 try refine xst ?_
 refine zas (fun i:Nat=>⟨[(7,I .i64 ((i:Int)-1)),(6,.own 6),(4,.ptr 5 0 0),(3,.ptr 4 0 0),(0,.ptr 0 0 0)],[(0,.blk 213 (z4z w 1 2 3)),(1,stR w),(2,miR w),(3,trR w),(4,.blk 41 [I .i64 b.x,I .i64 b.y]),(5,.blk 41 [I .i64 0,I .i64 0]),(6,.row 41 2 (((zc1 b).take (1+3*i)).map zaz))],7⟩) (fun i:Nat=>i≤3) (fun i:Nat=>3-i) (0) (Nat.zero_le _) (To.mk [0,1,2,3,4,5,6] rfl rfl (by decide) ?_ ?_) ?_
 ·simp(etaStruct := .none)only[push_cast,zab,seval,zc1,zaz]
 ·simp(etaStruct := .none)only[push_cast,zab,seval,Int.zero_sub]
 rintro i hi
 try refine xst ?_
 refine cI (fun h1 => ?_) fun h1 => ?_
 ·have hi3:i<3:=by omega
  try refine xst ?_
  refine zas (fun j:Nat=>⟨[(8,I .i64 ((j:Int)-1)),(7,I .i64 ((i:Int)-1)),(6,.own 6),(4,.ptr 5 0 0),(3,.ptr 4 0 0),(0,.ptr 0 0 0)],[(0,.blk 213 (z4z w 1 2 3)),(1,stR w),(2,miR w),(3,trR w),(4,.blk 41 [I .i64 b.x,I .i64 b.y]),(5,.blk 41 [I .i64 0,I .i64 0]),(6,.row 41 2 (((zc1 b).take (1+3*i+j)).map zaz))],7⟩) (fun j:Nat=>j≤3) (fun j:Nat=>3-j) (0) (Nat.zero_le _) (To.mk [0,1,2,3,4,5,6] rfl rfl (by decide) ?_ ?_) ?_
  ·simp(etaStruct := .none)only[push_cast,zab,seval]
  ·simp(etaStruct := .none)only[push_cast,zab,seval,Int.zero_sub]
  rintro j hj
  try refine xst ?_
  refine cI (fun h2 => ?_) fun h2 => ?_
  ·have hj3:j<3:=by omega
   have hst:=zu6 b hi3 hj3
   have hln:((zc1 b).take (1+3*i+j)).length≤10:=by rw[List.length_take,hal];omega
   try refine xst ?_
   refine⟨j+1,by omega,by omega,To.mk [0,1,2,3,4,5,8] rfl rfl (by decide) ?_ ?_⟩
   ·(iterate 2((try simp(etaStruct := .none)only[push_cast,zab,seval,hst,List.map_append,zaz]);(try(refine xsu ?_;try exact xtI))))
   ·(iterate 2((try simp(etaStruct := .none)only[push_cast,zab,seval,Int.add_sub_cancel,Int.sub_add_cancel]);(try(refine xsu ?_;try exact xtI))))
  ·obtain rfl:j=3:=by omega
   try refine xst ?_
   refine⟨i+1,by omega,by omega,To.mk [0,1,2,3,4,5,6] rfl rfl (by decide) ?_ ?_⟩
   ·(iterate 2((try simp(etaStruct := .none)only[push_cast,zab,seval,Nat.mul_add,Nat.mul_one,Nat.add_assoc]);(try(refine xsu ?_;try exact xtI))))
   ·(iterate 2((try simp(etaStruct := .none)only[push_cast,zab,seval,Int.add_sub_cancel,Int.sub_add_cancel]);(try(refine xsu ?_;try exact xtI))))
 ·obtain rfl:i=3:=by omega
  have hta:(zc1 b).take (1+3*3)=zc1 b:=rfl
  try refine xst ?_
  refine zas (fun k:Nat=>⟨[(37,I .i64 k),(36,I .i64 10),(35,.own 6),(4,.ptr 5 0 0),(0,.ptr 0 0 0)],[(0,.blk 213 (z4z w 1 2 3)),(1,stR w),(2,miR w),(3,trR w),(4,.blk 41 [I .i64 b.x,I .i64 b.y]),(5,.blk 41 [I .i64 0,I .i64 0]),(6,.row 41 2 ((zc1 b).map zaz))],7⟩) (fun k:Nat=>k≤10∧∀j,j<k→zj7 w ((zc1 b).getD j default)=false) (fun k:Nat=>10-k) (0) (⟨Nat.zero_le _,fun j h=>absurd h (Nat.not_lt_zero _)⟩) (To.mk [0,1,2,3,4,5,6] rfl rfl (by decide) ?_ ?_) ?_
  ·simp(etaStruct := .none)only[push_cast,zab,seval,hta]
  ·simp(etaStruct := .none)only[push_cast,zab,seval,hta,hal]
  rintro k ⟨hk,hn⟩
  try refine xst ?_
  refine zal (fun h3 => ?_) (fun h3 => ?_)
  ·(try replace h3:=xhh h3)
   have hlt:k<(zc1 b).length:=by rw[hal];omega
   obtain⟨x,hx⟩:∃x,x=(zc1 b).getD k default:=⟨_,rfl⟩
   (iterate 2((try simp(etaStruct := .none) (maxSteps:=1000000)only[push_cast,zab,seval,zaa _ _ _ hlt,←hx,zaz]);(try(refine xsu ?_;try exact xtI))))
   refine caP (zzk w.f x hw.l.1) ?_
   rw[hav]
   (iterate 2((try simp(etaStruct := .none) (maxSteps:=1000000)only[push_cast,zab,seval,zaa _ _ _ hlt,←hx,zaz]);(try(refine xsu ?_;try exact xtI))))
   (try(refine⟨by kernel_rfl,?_⟩))
   (iterate 2((try simp(etaStruct := .none) (maxSteps:=1000000)only[push_cast,zab,seval,zaa _ _ _ hlt,←hx,zaz]);(try(refine xsu ?_;try exact xtI))))
   refine zg2 (fun hcc=>ztn _ [] [.fel 2 [[pI x.x,pI x.y]] 0 0] w.troops (fun t=>decide (t.c=x)) (by omega) (fun t _=>yi8 t x) (fun _=>rfl) (fun _=>rfl)) (WkL.refl _) rfl (by intro hc;(try simp(etaStruct := .none)only[push_cast,zab,seval]);(try simp_all)) ?_
   (iterate 2((try simp(etaStruct := .none) (maxSteps:=1000000)only[push_cast,zab,seval,zaa _ _ _ hlt,←hx,zaz]);(try(refine xsu ?_;try exact xtI))))
   refine cI (fun h4 => ?_) fun h4 => ?_
   ·have hfb:zj7 w x=true:=by
     unfold zj7 zbw
     cases hc:inF w.f x with
     | false=>rw[hc]at h4;simp at h4
     | true =>
      rw[hc]at h4
      simp only[if_true]at h4
      rw[h4.2];simp;exact h4.1.2
    obtain⟨rfl,rfl⟩:=h.1 x (by unfold zng;rw[hx];exact zjh _ _ k hlt (by rw[←hx];exact hfb) hn)
    (iterate 2((try simp(etaStruct := .none) (maxSteps:=1000000)only[push_cast,zab,seval,zaa _ _ _ hlt,←hx,zaz]);(try(refine xsu ?_;try exact xtI))))
    refine zco [0,1,2,3] rfl rfl (by decide) ⟨?_,?_,?_,?_,trivial⟩ ?_ ?_<;>first|exact Wk.refl _|(try simp(etaStruct := .none)only[push_cast,zab,seval])
   ·have hfb:zj7 w x=false:=by
     unfold zj7 zbw
     cases hc:inF w.f x with
     | false=>rfl
     | true =>
      rw[hc]at h4
      simp only[if_true]at h4
      rcases h4 with h4|h4
      ·by_cases hp:zag w.f x=1
       ·simp[hp]
       ·exact absurd (h4.resolve_left (fun n=>n trivial)) hp
      ·rw[h4];simp
    (iterate 2((try simp(etaStruct := .none) (maxSteps:=1000000)only[push_cast,zab,seval,zaa _ _ _ hlt,←hx,zaz]);(try(refine xsu ?_;try exact xtI))))
    refine⟨k+1,⟨by omega,fun j hj=>by
 rcases Nat.lt_or_ge j k with h'|h'
 ·exact hn j h'
 ·rw [show j = k by omega, ← hx]; exact hfb⟩, by omega, To.mk [0, 1, 2, 3, 4, 5, 6] rfl rfl (by decide) ?_ ?_⟩
    ·(iterate 2((try simp(etaStruct := .none) (maxSteps:=1000000)only[push_cast,zab,seval,zaa _ _ _ hlt,←hx,zaz]);(try(refine xsu ?_;try exact xtI))))
    ·(iterate 2((try simp(etaStruct := .none) (maxSteps:=1000000)only[push_cast,zab,seval,zaa _ _ _ hlt,←hx,zaz]);(try(refine xsu ?_;try exact xtI))))
  ·(try replace h3:=xhh h3)
   obtain⟨rfl,rfl⟩:=h.2 (zmx _ _ (fun j hj=>hn j (by rw[hal]at hj;omega)))
   try refine xst ?_
   refine zco [0,1,2,3] rfl rfl (by decide) ⟨?_,?_,?_,?_,trivial⟩ ?_ ?_<;>first|exact Wk.refl _|(try simp(etaStruct := .none)only[push_cast,zab,seval])
end Go.Proofs.YtbapdgmcndgieaaGreat
namespace Go.Proofs.YtbapdgmcndgieaaGreat
set_option linter.all false
open Go.RowKit
set_option maxRecDepth 100000
set_option maxHeartbeats 2000000
theorem zmo (k:Int):zgk k=0↔k=1∨k=2:=by unfold zgk;split<;>(try split)<;>omega
theorem zqp {w:Wld} (hw:Right w) {i:Nat} (hi:i<w.bases.length) : -1000≤(w.bases.getD i default).x∧(w.bases.getD i default).x≤1000 ∧ -1000≤(w.bases.getD i default).y∧(w.bases.getD i default).y≤1000:=by
 have:=inF_iff.1 (ground_iff.1 (hw.base i hi).1).1
 have:=zba hw.f
 omega
theorem z23 (w:Wld) (d:Ded) (hw:Right w) (h:w.stocks.length≤d.who.toNat):Spec Tryz.prog 178 [.ptr 0 0 0,zkc d] (zgf w) (B false) (zgf w):=by
 have hsl:=hw.sl
 have hg:(w.stocks.map zac).getD d.who.toNat [] = []:=by
  simp only[List.getD_eq_getElem?_getD];rw[List.getElem?_eq_none (by rw[List.length_map];exact h)];rfl
 have hge:d.who<0∨(w.bases.length:Int)≤d.who:=by omega
 refine spB Tryz.func178 126 [.tmp 4] Tryz.results178 ?_
 (iterate 2((try simp(etaStruct := .none) (maxSteps:=1000000)only[push_cast,zab,seval,hg]);(try(refine xsu ?_;try exact xtI))))
 refine caP (zh4 d.what) ?_
 (iterate 2((try simp(etaStruct := .none) (maxSteps:=1000000)only[push_cast,zab,seval,hg]);(try(refine xsu ?_;try exact xtI))))
 (try(refine⟨by kernel_rfl,?_⟩))
 (iterate 2((try simp(etaStruct := .none) (maxSteps:=1000000)only[push_cast,zab,seval,hg]);(try(refine xsu ?_;try exact xtI))))
 refine cI (fun h1 => ?_) fun h1 => ?_
 ·(iterate 2((try simp(etaStruct := .none) (maxSteps:=1000000)only[push_cast,zab,seval,hg]);(try(refine xsu ?_;try exact xtI))))
  refine zco [0,1,2,3] rfl rfl (by decide) ⟨?_,?_,?_,?_,trivial⟩ trivial ?_<;>first|exact Wk.refl _|simp(etaStruct := .none)only[push_cast,zab,seval]
 ·exact absurd h1 (by decide)
theorem zw8 (w:Wld) (d:Ded) (hw:Right w) (h:d.who.toNat<w.stocks.length) (hno:zfs w d=false∨zng w (w.bases.getD d.who.toNat default)=none):Spec Tryz.prog 178 [.ptr 0 0 0,zkc d] (zgf w) (B false) (zgf w):=by
 have hsl:=hw.sl
 have hb:d.who.toNat<w.bases.length:=by omega
 have hbb:=zqp hw hb
 have hnt:=hw.nt
 refine spB Tryz.func178 126 [.tmp 4] Tryz.results178 ?_
 (iterate 2((try simp(etaStruct := .none) (maxSteps:=1000000)only[push_cast,zab,seval,zaa _ _ _ h,zaa _ _ _ hb,zac,zaz]);(try(refine xsu ?_;try exact xtI))))
 refine caP (zh4 d.what) ?_
 (iterate 2((try simp(etaStruct := .none) (maxSteps:=1000000)only[push_cast,zab,seval,zaa _ _ _ h,zaa _ _ _ hb,zac,zaz]);(try(refine xsu ?_;try exact xtI))))
 (try(refine⟨by kernel_rfl,?_⟩))
 (iterate 2((try simp(etaStruct := .none) (maxSteps:=1000000)only[push_cast,zab,seval,zaa _ _ _ h,zaa _ _ _ hb,zac,zaz]);(try(refine xsu ?_;try exact xtI))))
 refine cI (fun h1 => ?_) fun h1 => ?_
 ·(iterate 2((try simp(etaStruct := .none) (maxSteps:=1000000)only[push_cast,zab,seval,zaa _ _ _ h,zaa _ _ _ hb,zac,zaz]);(try(refine xsu ?_;try exact xtI))))
  refine zco [0,1,2,3] rfl rfl (by decide) ⟨?_,?_,?_,?_,trivial⟩ trivial ?_<;>first|exact Wk.refl _|simp(etaStruct := .none)only[push_cast,zab,seval]
 ·have hy:zfs w d=true:=by rw[hireOk_iff,←zmo];exact⟨⟨⟨⟨⟨by omega,by omega⟩,by omega⟩,by omega⟩,by omega⟩,by omega⟩
  have hf:zng w (w.bases.getD d.who.toNat default)=none:=by rcases hno with h2|h2;rw[hy]at h2;simp at h2;exact h2
  (iterate 2((try simp(etaStruct := .none) (maxSteps:=1000000)only[push_cast,zab,seval,zaa _ _ _ h,zaa _ _ _ hb,zac,zaz]);(try(refine xsu ?_;try exact xtI))))
  refine zgd [0,1,2,3] (z24 w (w.bases.getD d.who.toNat default) hw hbb ⟨0,0⟩ false ⟨fun c' hc=>by rw[hf]at hc;simp at hc,fun _=>⟨rfl,rfl⟩⟩) (WkL.refl _) rfl (by decide) (by simp[zcd,zfz,zte]) ?_
  (iterate 2((try simp(etaStruct := .none) (maxSteps:=1000000)only[push_cast,zab,seval,zaa _ _ _ h,zaa _ _ _ hb,zac,zaz]);(try(refine xsu ?_;try exact xtI))))
  (try(refine⟨by kernel_rfl,?_⟩))
  (iterate 2((try simp(etaStruct := .none) (maxSteps:=1000000)only[push_cast,zab,seval,zaa _ _ _ h,zaa _ _ _ hb,zac,zaz]);(try(refine xsu ?_;try exact xtI))))
  refine cI (fun h2 => ?_) fun h2 => ?_
  ·(iterate 2((try simp(etaStruct := .none) (maxSteps:=1000000)only[push_cast,zab,seval,zaa _ _ _ h,zaa _ _ _ hb,zac,zaz]);(try(refine xsu ?_;try exact xtI))))
   refine zco [0,1,2,3] rfl rfl (by decide) ⟨?_,?_,?_,?_,trivial⟩ trivial ?_<;>first|exact Wk.refl _|simp(etaStruct := .none)only[push_cast,zab,seval]
  ·exact absurd h2 (by decide)
abbrev z4y (w:Wld):List Chunk := [.blk 213 (z4z w 1 2 4),stR w,miR w,.dead,trR w]
theorem z22 (w:Wld) (d:Ded) (hw:Right w) (ho:zfs w d=true) (c:Cel) (hc:zng w (w.bases.getD d.who.toNat default)=some c):Spec Tryz.prog 178 [.ptr 0 0 0,zkc d] (zgf w) (B true) (z4y (zdm w d c)):=by
 have hsl:=hw.sl
 have hoi:=hireOk_iff.1 ho
 rw[←zmo]at hoi
 have h:d.who.toNat<w.stocks.length:=by omega
 have hb:d.who.toNat<w.bases.length:=by omega
 have hbb:=zqp hw hb
 have hnt:=hw.nt
 have hnx:=hw.nx
 have hst:=(hw.base _ hb).2.1
 have hpr:0≤(zbh d.what).price∧(zbh d.what).price≤12:=by rcases (zmo _).1 hoi.1.1.1.2 with e|e<;>rw[e]<;>decide
 have ew:IntKind.i64.wrap (w.stocks.getD d.who.toNat default-(zbh d.what).price)=w.stocks.getD d.who.toNat default-(zbh d.what).price:=zaq _ (by omega) (by omega)
 have ew2:IntKind.i64.wrap (w.next+1)=w.next+1:=zaq _ (by omega) (by omega)
 refine spB Tryz.func178 126 [.tmp 4] Tryz.results178 ?_
 (iterate 2((try simp(etaStruct := .none) (maxSteps:=1000000)only[push_cast,zab,seval,zaa _ _ _ h,zaa _ _ _ hb,zac,zaz,ew,ew2]);(try(refine xsu ?_;try exact xtI))))
 refine caP (zh4 d.what) ?_
 (iterate 2((try simp(etaStruct := .none) (maxSteps:=1000000)only[push_cast,zab,seval,zaa _ _ _ h,zaa _ _ _ hb,zac,zaz,ew,ew2]);(try(refine xsu ?_;try exact xtI))))
 (try(refine⟨by kernel_rfl,?_⟩))
 (iterate 2((try simp(etaStruct := .none) (maxSteps:=1000000)only[push_cast,zab,seval,zaa _ _ _ h,zaa _ _ _ hb,zac,zaz,ew,ew2]);(try(refine xsu ?_;try exact xtI))))
 refine cI (fun h1 => ?_) fun h1 => ?_
 ·exfalso;omega
 ·(iterate 2((try simp(etaStruct := .none) (maxSteps:=1000000)only[push_cast,zab,seval,zaa _ _ _ h,zaa _ _ _ hb,zac,zaz,ew,ew2]);(try(refine xsu ?_;try exact xtI))))
  refine zgd [0,1,2,3] (z24 w (w.bases.getD d.who.toNat default) hw hbb c true ⟨fun c' hc'=>by rw[hc]at hc';exact⟨(Option.some.inj hc'),rfl⟩,fun hn=>by rw[hc]at hn;simp at hn⟩) (WkL.refl _) rfl (by decide) (by simp[zcd,zfz,zte]) ?_
  (iterate 2((try simp(etaStruct := .none) (maxSteps:=1000000)only[push_cast,zab,seval,zaa _ _ _ h,zaa _ _ _ hb,zac,zaz,ew,ew2]);(try(refine xsu ?_;try exact xtI))))
  (try(refine⟨by kernel_rfl,?_⟩))
  (iterate 2((try simp(etaStruct := .none) (maxSteps:=1000000)only[push_cast,zab,seval,zaa _ _ _ h,zaa _ _ _ hb,zac,zaz,ew,ew2]);(try(refine xsu ?_;try exact xtI))))
  refine cI (fun h2 => ?_) fun h2 => ?_
  ·exact absurd h2 (by decide)
  ·(iterate 2((try simp(etaStruct := .none) (maxSteps:=1000000)only[push_cast,zab,seval,zaa _ _ _ h,zaa _ _ _ hb,zac,zaz,ew,ew2]);(try(refine xsu ?_;try exact xtI))))
   (try(refine⟨by kernel_rfl,?_⟩))
   (iterate 2((try simp(etaStruct := .none) (maxSteps:=1000000)only[push_cast,zab,seval,zaa _ _ _ h,zaa _ _ _ hb,zac,zaz,ew,ew2]);(try(refine xsu ?_;try exact xtI))))
   (try(refine⟨by kernel_rfl,?_⟩))
   (iterate 2((try simp(etaStruct := .none) (maxSteps:=1000000)only[push_cast,zab,seval,zaa _ _ _ h,zaa _ _ _ hb,zac,zaz,ew,ew2]);(try(refine xsu ?_;try exact xtI))))
   refine zco [0,1,2,3,350] rfl rfl (by decide) ⟨?_,?_,?_,?_,?_,trivial⟩ trivial ?_
   ·simp(etaStruct := .none) (maxSteps:=1000000)only[push_cast,zab,seval,zdm]
   ·simp(etaStruct := .none) (maxSteps:=1000000)only[push_cast,zab,seval,zdm,List.map_set,zac]
   ·simp(etaStruct := .none) (maxSteps:=1000000)only[push_cast,zab,seval,zdm]
   ·simp(etaStruct := .none) (maxSteps:=1000000)only[push_cast,zab,seval,zdm]
   ·simp(etaStruct := .none) (maxSteps:=1000000)only[push_cast,zab,seval,zdm,List.map_append,zaw]
   ·exact Wk.refl _
theorem zup (w W:Wld) (d:Ded) (b:Bool) (h:d.kind=1) (M:Spec Tryz.prog 176 [.ptr 0 0 0,zkc d] (zgf w) (B b) (zgf W)):Spec Tryz.prog 140 [.ptr 0 0 0,zkc d] (zgf w) (B b) (zgf W):=by
 refine spB Tryz.func140 22 [.tmp 4] Tryz.results140 ?_
 try refine xst ?_
 refine cI (fun h1 => ?_) fun h1 => ?_
 ·try refine xst ?_
  refine caM [0,1,2,3] (M) ?_
  try refine xst ?_
  refine zco [0,1,2,3] rfl rfl (by decide) ⟨?_,?_,?_,?_,trivial⟩ trivial ?_<;>first|exact Wk.refl _|simp(etaStruct := .none)only[push_cast,zab,seval]
 ·exact absurd h h1
theorem zuo (w W:Wld) (d:Ded) (b:Bool) (h:d.kind=2) (M:Spec Tryz.prog 177 [.ptr 0 0 0,zkc d] (zgf w) (B b) (zgf W)):Spec Tryz.prog 140 [.ptr 0 0 0,zkc d] (zgf w) (B b) (zgf W):=by
 refine spB Tryz.func140 22 [.tmp 4] Tryz.results140 ?_
 try refine xst ?_
 refine cI (fun h1 => ?_) fun h1 => ?_
 ·exfalso;omega
 ·try refine xst ?_
  refine cI (fun h2 => ?_) fun h2 => ?_
  ·try refine xst ?_
   refine caM [0,1,2,3] (M) ?_
   try refine xst ?_
   refine zco [0,1,2,3] rfl rfl (by decide) ⟨?_,?_,?_,?_,trivial⟩ trivial ?_<;>first|exact Wk.refl _|simp(etaStruct := .none)only[push_cast,zab,seval]
  ·exact absurd h h2
theorem zun (w:Wld) (d:Ded) (h:d.kind=3) (M:Spec Tryz.prog 178 [.ptr 0 0 0,zkc d] (zgf w) (B false) (zgf w)):Spec Tryz.prog 140 [.ptr 0 0 0,zkc d] (zgf w) (B false) (zgf w):=by
 refine spB Tryz.func140 22 [.tmp 4] Tryz.results140 ?_
 try refine xst ?_
 refine cI (fun h1 => ?_) fun h1 => ?_
 ·exfalso;omega
 ·try refine xst ?_
  refine cI (fun h2 => ?_) fun h2 => ?_
  ·exfalso;omega
  ·try refine xst ?_
   refine cI (fun h3 => ?_) fun h3 => ?_
   ·try refine xst ?_
    refine caM [0,1,2,3] (M) ?_
    try refine xst ?_
    refine zco [0,1,2,3] rfl rfl (by decide) ⟨?_,?_,?_,?_,trivial⟩ trivial ?_<;>first|exact Wk.refl _|simp(etaStruct := .none)only[push_cast,zab,seval]
   ·exact absurd h h3
theorem ycc (w:Wld) (d:Ded) (h:d.kind≠1∧d.kind≠2∧d.kind≠3):Spec Tryz.prog 140 [.ptr 0 0 0,zkc d] (zgf w) (B false) (zgf w):=by
 refine spB Tryz.func140 22 [.tmp 4] Tryz.results140 ?_
 try refine xst ?_
 refine cI (fun h1 => ?_) fun h1 => ?_
 ·exfalso;omega
 ·try refine xst ?_
  refine cI (fun h2 => ?_) fun h2 => ?_
  ·exfalso;omega
  ·try refine xst ?_
   refine cI (fun h3 => ?_) fun h3 => ?_
   ·exfalso;omega
   ·try refine xst ?_
    refine zco [0,1,2,3] rfl rfl (by decide) ⟨?_,?_,?_,?_,trivial⟩ trivial ?_<;>first|exact Wk.refl _|simp(etaStruct := .none)only[push_cast,zab,seval]
theorem ycb (w W:Wld) (d:Ded) (h:d.kind=3) (M:Spec Tryz.prog 178 [.ptr 0 0 0,zkc d] (zgf w) (B true) (z4y W)):Spec Tryz.prog 140 [.ptr 0 0 0,zkc d] (zgf w) (B true) (z4y W):=by
 refine spB Tryz.func140 22 [.tmp 4] Tryz.results140 ?_
 try refine xst ?_
 refine cI (fun h1 => ?_) fun h1 => ?_
 ·exfalso;omega
 ·try refine xst ?_
  refine cI (fun h2 => ?_) fun h2 => ?_
  ·exfalso;omega
  ·try refine xst ?_
   refine cI (fun h3 => ?_) fun h3 => ?_
   ·try refine xst ?_
    refine caM [0,1,2,3] (M) ?_
    try refine xst ?_
    refine zco [0,1,2,3,5] rfl rfl (by decide) ⟨?_,?_,?_,?_,?_,trivial⟩ trivial ?_<;>first|exact Wk.refl _|simp(etaStruct := .none)only[push_cast,zab,seval]
   ·exact absurd h h3
theorem yca (w:Wld) (d:Ded) (hw:Right w):Spec Tryz.prog 140 [.ptr 0 0 0,zkc d] (zgf w) (B (ze1 w d).2) (zgf (ze1 w d).1)∨Spec Tryz.prog 140 [.ptr 0 0 0,zkc d] (zgf w) (B (ze1 w d).2) (z4y (ze1 w d).1):=by
 unfold ze1
 split
 ·rename_i h
  split
  ·rename_i i hi
   split
   ·rename_i ho;exact .inl (zup w _ d true h (z21 w d i hw hi true _ ⟨fun _=>⟨rfl,rfl⟩,fun h2=>by rw[ho]at h2;simp at h2⟩))
   ·rename_i ho;exact .inl (zup w _ d false h (z21 w d i hw hi false _ ⟨fun h2=>absurd h2 ho,fun _=>⟨rfl,rfl⟩⟩))
  ·rename_i hi;exact .inl (zup w _ d false h (zyy w d hw hi))
 ·split
  ·rename_i h
   split
   ·rename_i i hi
    split
    ·rename_i ho;exact .inl (zuo w _ d _ h (z25 w d i hw hi _ _ ⟨fun _=>⟨rfl,rfl⟩,fun h2=>by rw[ho]at h2;simp at h2⟩))
    ·rename_i ho;exact .inl (zuo w _ d false h (z25 w d i hw hi false _ ⟨fun h2=>absurd h2 ho,fun _=>⟨rfl,rfl⟩⟩))
   ·rename_i hi;exact .inl (zuo w _ d false h (zyz w d hw hi))
  ·split
   ·rename_i h
    split
    ·rename_i ho
     split
     ·rename_i c hc;exact .inr (ycb w _ d h (z22 w d hw ho c hc))
     ·rename_i hc
      have hoi:=hireOk_iff.1 ho
      exact .inl (zun w d h (zw8 w d hw (by have:=hw.sl;omega) (.inr hc)))
    ·rename_i ho
     rcases Nat.lt_or_ge d.who.toNat w.stocks.length with h2|h2
     ·exact .inl (zun w d h (zw8 w d hw h2 (.inl (by simpa using ho))))
     ·exact .inl (zun w d h (z23 w d hw h2))
   ·exact .inl (ycc w d ⟨by assumption,by assumption,by assumption⟩)
theorem yft (w:Wld) (hw:Right w):Spec Tryz.prog 139 [zbk w] [] (.agg [I .i64 w.f.w,I .i64 w.f.h,.c (.sl 1 (w.f.p.map zac)),.c (.sl 2 (w.bases.map zaz)),.own 0,.own 1,.own 2,I .i64 w.next,I .i64 w.now]) [stR w,miR w,trR w]:=by
 have h1:=hw.places
 have h2:=hw.nb
 have h3:=hw.sl
 have h4:=hw.ml
 have h5:=hw.nt
 refine spB Tryz.func139 26 [.cell 2 28] Tryz.results139 ?_
 try refine xst ?_
 refine caP (zf5 w.f.p (by omega)) ?_
 try refine xst ?_
 refine caP (zqn w.bases (by omega)) ?_
 try refine xst ?_
 refine caM [] (zbf w.stocks (by omega)) ?_
 try refine xst ?_
 (try(refine⟨by kernel_rfl,?_⟩))
 try refine xst ?_
 refine caM [] (zbf w.mines (by omega)) ?_
 try refine xst ?_
 refine caM [] (zcx w.troops (by omega)) ?_
 try refine xst ?_
 (try(refine⟨by kernel_rfl,?_⟩))
 try refine xst ?_
 refine zco [22,50,62] rfl rfl (by decide) ⟨?_,?_,?_,trivial⟩ ?_ ?_<;>first|exact Wk.refl _|(try simp(etaStruct := .none)only[push_cast,zab,seval])
theorem ykx (w:Wld) (l:List Ded) (hw:Right w) (hll:l.length≤200):Spec Tryz.prog 101 [zbk w,.c (.sl 5 (l.map zjp))] [] (.tup [zbk (za6 w l).1,.c (.sl 1 ((za6 w l).2.map ze2)),I .i64 0]) []:=by
 have he:=hw.e
 refine spB Tryz.func101 40 [.cell 4 28,.tmp 5,.tmp 6] Tryz.results101 ?_
 try refine xst ?_
 refine caP (ze9 w hw.l) ?_
 try refine xst ?_
 refine cI (fun h1 => ?_) fun h1 => ?_
 ·exact absurd he h1
 ·try refine xst ?_
  refine cI (fun h2 => ?_) fun h2 => ?_
  ·omega
  ·try refine xst ?_
   refine caM [] (yft w hw) ?_
   try refine xst ?_
   refine zas (fun k:Nat=>⟨[(27,I .i64 k),(26,I .i64 l.length),(25,.c (.sl 5 (l.map zjp))),(9,.own 5),(8,.ptr 1 0 0),(4,.ptr 0 0 0)],[(0,.blk 28 [I .i64 0,I .i64 0,.c (.v (.slice none 0 0)),.c (.v (.slice none 0 0)),.c (.v (.slice none 0 0)),.c (.v (.slice none 0 0)),.c (.v (.slice none 0 0)),I .i64 0,I .i64 0]),(1,.blk 213 (z4z (za6 w (l.take k)).1 2 3 4)),(2,stR (za6 w (l.take k)).1),(3,miR (za6 w (l.take k)).1),(4,trR (za6 w (l.take k)).1),(5,.row 4 1 ((za6 w (l.take k)).2.map ze2))],6⟩) (fun k:Nat=>k≤l.length) (fun k:Nat=>l.length-k) (0) (Nat.zero_le _) ((To.nil 9 4 1 rfl).trans (To.mk [1,5,2,3,4,6] rfl rfl (by decide) ?_ ?_)) ?_
   ·simp(etaStruct := .none)only[push_cast,zab,seval,List.take_zero,za6]
   ·simp(etaStruct := .none)only[push_cast,zab,seval]
   rintro k hk
   try refine xst ?_
   refine cI (fun h3 => ?_) fun h3 => ?_
   ·have hlt:k<l.length:=by omega
    obtain⟨d,hd⟩:∃d,d=l.getD k default:=⟨_,rfl⟩
    have hst:za6 w (l.take (k+1))=((ze1 (za6 w (l.take k)).1 d).1,(za6 w (l.take k)).2 ++ [(ze1 (za6 w (l.take k)).1 d).2]):=by rw[zav _ _ hlt,←hd,zmy]
    have hR:=zh7 (l.take k) hw
    have hbl:=zoh (l.take k) w
    rw[List.length_take]at hbl
    generalize (za6 w (l.take k)).1=W at *
    generalize (za6 w (l.take k)).2=bs at *
    try refine xz3 (gd hlt) hd.symm zxh ?_
    rcases yca W d hR with M|M
    ·refine zgd [1,2,3,4] M (WkL.refl _) rfl (by decide) (by simp[zcd]) ?_
     try refine xz1 zm4 ?_
     refine⟨k+1,by omega,by omega,To.mk [0,1,2,3,4,8] rfl rfl (by decide) ?_ ?_⟩
     ·(iterate 2((try simp(etaStruct := .none)only[push_cast,zab,seval,hst,List.map_append,ze2]);(try(refine xsu ?_;try exact xtI))))
     ·(try(refine xst ?_;try exact xtI))
    ·refine zgd [1,2,3,4] M (WkL.refl _) rfl (by decide) (by simp[zcd]) ?_
     try refine xz1 zm4 ?_
     refine⟨k+1,by omega,by omega,To.mk [0,1,2,3,7,9] rfl rfl (by decide) ?_ ?_⟩
     ·(iterate 2((try simp(etaStruct := .none)only[push_cast,zab,seval,hst,List.map_append,ze2]);(try(refine xsu ?_;try exact xtI))))
     ·(try(refine xst ?_;try exact xtI))
   ·obtain rfl:k=l.length:=by omega
    iterate 2(try simp(etaStruct := .none)only[push_cast,zab,seval,List.take_length];try refine xsu ?_)
    exact xrz rfl
end Go.Proofs.YtbapdgmcndgieaaGreat
namespace Go.Proofs.YtbapdgmcndgieaaGreat
set_option linter.all false
open Go.RowKit
set_option maxRecDepth 100000
set_option maxHeartbeats 1000000
theorem z7p (o:Ord) (b:List Blw) (g:List Gop) (d:List Ded) (h:o.kind=1) (hb:b.length≤1000) :
 Spec Tryz.prog 136 [.ptr 0 0 0,zic o] [.blk 209 [.own 1,.own 2,.own 3],.row 187 2 (b.map zea),.row 189 3 (g.map zc8),.row 191 5 (d.map zjp)] (.tup [])
  [.blk 209 [.own 4,.own 2,.own 3],.dead,.row 189 3 (g.map zc8),.row 191 5 (d.map zjp),.row 187 2 ((b ++ [(⟨o.who,o.what⟩:Blw)]).map zea)]:=by
 refine spB Tryz.func136 84 [] Tryz.results136 ?_
 try refine xst ?_
 refine cI (fun h1 => ?_) fun h1 => ?_
 ·try refine xst ?_
  (try(refine⟨by kernel_rfl,?_⟩))
  try refine xst ?_
  refine zco [0,1,2,3,49] rfl rfl (by decide) ⟨?_,?_,?_,?_,?_,trivial⟩ trivial ?_
  ·simp(etaStruct := .none)only[push_cast,zab,seval]
  ·simp(etaStruct := .none)only[push_cast,zab,seval]
  ·simp(etaStruct := .none)only[push_cast,zab,seval]
  ·simp(etaStruct := .none)only[push_cast,zab,seval]
  ·simp(etaStruct := .none)only[push_cast,zab,seval,List.map_append,zea]
  ·simp(etaStruct := .none)only[push_cast,zab,seval]
 ·omega
theorem ygb (o:Ord) (b:List Blw) (g:List Gop) (d:List Ded) (h:o.kind=2) (hb:g.length≤1000) :
 Spec Tryz.prog 136 [.ptr 0 0 0,zic o] [.blk 209 [.own 1,.own 2,.own 3],.row 187 2 (b.map zea),.row 189 3 (g.map zc8),.row 191 5 (d.map zjp)] (.tup [])
  [.blk 209 [.own 1,.own 4,.own 3],.row 187 2 (b.map zea),.dead,.row 191 5 (d.map zjp),.row 189 3 ((g ++ [(⟨o.who,o.c⟩:Gop)]).map zc8)]:=by
 refine spB Tryz.func136 84 [] Tryz.results136 ?_
 try refine xst ?_
 refine cI (fun h1 => ?_) fun h1 => ?_
 ·omega
 ·try refine xst ?_
  refine cI (fun h2 => ?_) fun h2 => ?_
  ·try refine xst ?_
   (try(refine⟨by kernel_rfl,?_⟩))
   try refine xst ?_
   refine zco [0,1,2,3,49] rfl rfl (by decide) ⟨?_,?_,?_,?_,?_,trivial⟩ trivial ?_
   ·simp(etaStruct := .none)only[push_cast,zab,seval]
   ·simp(etaStruct := .none)only[push_cast,zab,seval]
   ·simp(etaStruct := .none)only[push_cast,zab,seval]
   ·simp(etaStruct := .none)only[push_cast,zab,seval]
   ·simp(etaStruct := .none)only[push_cast,zab,seval,List.map_append,zc8]
   ·simp(etaStruct := .none)only[push_cast,zab,seval]
  ·omega
theorem z7m (o:Ord) (b:List Blw) (g:List Gop) (d:List Ded) (h:o.kind=3) (hb:d.length≤1000) :
 Spec Tryz.prog 136 [.ptr 0 0 0,zic o] [.blk 209 [.own 1,.own 2,.own 3],.row 187 2 (b.map zea),.row 189 3 (g.map zc8),.row 191 5 (d.map zjp)] (.tup [])
  [.blk 209 [.own 1,.own 2,.own 4],.row 187 2 (b.map zea),.row 189 3 (g.map zc8),.dead,.row 191 5 ((d ++ [(⟨1,o.who,o.c,0⟩:Ded)]).map zjp)]:=by
 refine spB Tryz.func136 84 [] Tryz.results136 ?_
 try refine xst ?_
 refine cI (fun h1 => ?_) fun h1 => ?_
 ·omega
 ·try refine xst ?_
  refine cI (fun h2 => ?_) fun h2 => ?_
  ·omega
  ·try refine xst ?_
   refine cI (fun h3 => ?_) fun h3 => ?_
   ·try refine xst ?_
    (try(refine⟨by kernel_rfl,?_⟩))
    try refine xst ?_
    refine zco [0,1,2,3,49] rfl rfl (by decide) ⟨?_,?_,?_,?_,?_,trivial⟩ trivial ?_
    ·simp(etaStruct := .none)only[push_cast,zab,seval]
    ·simp(etaStruct := .none)only[push_cast,zab,seval]
    ·simp(etaStruct := .none)only[push_cast,zab,seval]
    ·simp(etaStruct := .none)only[push_cast,zab,seval]
    ·simp(etaStruct := .none)only[push_cast,zab,seval,List.map_append,zjp]
    ·simp(etaStruct := .none)only[push_cast,zab,seval]
   ·omega
theorem z7o (o:Ord) (b:List Blw) (g:List Gop) (d:List Ded) (h:o.kind=4) (hb:d.length≤1000) :
 Spec Tryz.prog 136 [.ptr 0 0 0,zic o] [.blk 209 [.own 1,.own 2,.own 3],.row 187 2 (b.map zea),.row 189 3 (g.map zc8),.row 191 5 (d.map zjp)] (.tup [])
  [.blk 209 [.own 1,.own 2,.own 4],.row 187 2 (b.map zea),.row 189 3 (g.map zc8),.dead,.row 191 5 ((d ++ [(⟨2,o.who,⟨0,0⟩,0⟩:Ded)]).map zjp)]:=by
 refine spB Tryz.func136 84 [] Tryz.results136 ?_
 try refine xst ?_
 refine cI (fun h1 => ?_) fun h1 => ?_
 ·omega
 ·try refine xst ?_
  refine cI (fun h2 => ?_) fun h2 => ?_
  ·omega
  ·try refine xst ?_
   refine cI (fun h3 => ?_) fun h3 => ?_
   ·omega
   ·try refine xst ?_
    refine cI (fun h4 => ?_) fun h4 => ?_
    ·try refine xst ?_
     (try(refine⟨by kernel_rfl,?_⟩))
     try refine xst ?_
     refine zco [0,1,2,3,41] rfl rfl (by decide) ⟨?_,?_,?_,?_,?_,trivial⟩ trivial ?_
     ·simp(etaStruct := .none)only[push_cast,zab,seval]
     ·simp(etaStruct := .none)only[push_cast,zab,seval]
     ·simp(etaStruct := .none)only[push_cast,zab,seval]
     ·simp(etaStruct := .none)only[push_cast,zab,seval]
     ·simp(etaStruct := .none)only[push_cast,zab,seval,List.map_append,zjp]
     ·simp(etaStruct := .none)only[push_cast,zab,seval]
    ·omega
theorem z7n (o:Ord) (b:List Blw) (g:List Gop) (d:List Ded) (h:o.kind=5) (hb:d.length≤1000) :
 Spec Tryz.prog 136 [.ptr 0 0 0,zic o] [.blk 209 [.own 1,.own 2,.own 3],.row 187 2 (b.map zea),.row 189 3 (g.map zc8),.row 191 5 (d.map zjp)] (.tup [])
  [.blk 209 [.own 1,.own 2,.own 4],.row 187 2 (b.map zea),.row 189 3 (g.map zc8),.dead,.row 191 5 ((d ++ [(⟨3,o.by_,⟨0,0⟩,o.what⟩:Ded)]).map zjp)]:=by
 refine spB Tryz.func136 84 [] Tryz.results136 ?_
 try refine xst ?_
 refine cI (fun h1 => ?_) fun h1 => ?_
 ·omega
 ·try refine xst ?_
  refine cI (fun h2 => ?_) fun h2 => ?_
  ·omega
  ·try refine xst ?_
   refine cI (fun h3 => ?_) fun h3 => ?_
   ·omega
   ·try refine xst ?_
    refine cI (fun h4 => ?_) fun h4 => ?_
    ·omega
    ·try refine xst ?_
     refine cI (fun h5 => ?_) fun h5 => ?_
     ·try refine xst ?_
      (try(refine⟨by kernel_rfl,?_⟩))
      try refine xst ?_
      refine zco [0,1,2,3,49] rfl rfl (by decide) ⟨?_,?_,?_,?_,?_,trivial⟩ trivial ?_
      ·simp(etaStruct := .none)only[push_cast,zab,seval]
      ·simp(etaStruct := .none)only[push_cast,zab,seval]
      ·simp(etaStruct := .none)only[push_cast,zab,seval]
      ·simp(etaStruct := .none)only[push_cast,zab,seval]
      ·simp(etaStruct := .none)only[push_cast,zab,seval,List.map_append,zjp]
      ·simp(etaStruct := .none)only[push_cast,zab,seval]
     ·omega
def OwnM (w:Wld) (k:Nat) (es:List (List Int × Int)):Prop:=(∀i:Int,zmf [i] es=(w.troops.take k).any fun t=>decide (t.id=i))∧∀j,j<k→zdk [(w.troops.getD j default).id] es=(w.troops.getD j default).owner
theorem OwnM.step {w:Wld} (hw:zah w=0) {k:Nat} {es:List (List Int × Int)} (h:OwnM w k es) (hk:k<w.troops.length):OwnM w (k+1) (zhe [(w.troops.getD k default).id] (w.troops.getD k default).owner es):=by
 refine⟨fun i => ?_,fun j hj => ?_⟩
 ·rw[zme,zav _ _ hk,List.any_append,h.1 i]
  simp only[List.any_cons,List.any_nil,Bool.or_false,List.cons.injEq,and_true]
  by_cases hi:i=(w.troops.getD k default).id
  ·rw[if_pos hi,decide_eq_true hi.symm,Bool.or_true]
  ·rw[if_neg hi,decide_eq_false (Ne.symm hi),Bool.or_false]
 ·rw[zcq]
  by_cases hjk:j=k
  ·subst hjk;rw[if_pos rfl]
  ·have h2:=(ze8 hw hk).2
   unfold z4h at h2
   rw[zqr,Bool.and_eq_true]at h2
   have:=(zbo _ _).1 h2.1 j (by omega)
   rw[decide_eq_true_eq]at this
   rw[if_neg (fun h=>by have:=(List.cons.inj h).1;omega)]
   exact h.2 j (by omega)
theorem OwnM.find {w:Wld} {es:List (List Int × Int)} (h:OwnM w w.troops.length es) (i b:Int):(zmf [i] es&&decide (zdk [i] es=b))=match zbx w i with|some t=>decide (t.owner=b)|none=>false:=by
 have h1:=h.1 i
 rw[List.take_length]at h1
 unfold zbx
 cases hf:w.troops.find? (fun t=>decide (t.id=i))with
 | none =>
  have:(w.troops.any fun t=>decide (t.id=i))=false:=by
   rw[List.any_eq_false];intro x hx;simpa using List.find?_eq_none.1 hf x hx
  rw[h1,this];rfl
 | some t =>
  have hm:=List.mem_of_find?_eq_some hf
  have hp:=List.find?_some hf
  rw[decide_eq_true_eq]at hp
  have:(w.troops.any fun t=>decide (t.id=i))=true:=by
   rw[List.any_eq_true];exact⟨t,hm,by simpa using hp⟩
  obtain⟨j,hj,rfl⟩:=List.getElem_of_mem hm
  have h2:=h.2 j hj
  rw[zad _ _ hj,hp]at h2
  rw[h1,this,h2];rfl
def zb7 (l:List Ord) (w:Wld):Int:=if zcc l≠0 then zcc l else zah w
theorem zqv {o:Ord} (h:o.kind≠1):zxw o = []:=by unfold zxw;rw[if_neg h]
theorem zqs {o:Ord} (h:o.kind≠2):zxv o = []:=by unfold zxv;rw[if_neg h]
theorem z32 {o:Ord} (h:¬2<o.kind):zq1 o = []:=by unfold zq1;rw[if_neg h]
theorem ygh {o:Ord} (h:o.kind=1):zxw o = [⟨o.who,o.what⟩]:=by unfold zxw;rw[if_pos h]
theorem ygd {o:Ord} (h:o.kind=2):zxv o = [⟨o.who,o.c⟩]:=by unfold zxv;rw[if_pos h]
theorem ygg {o:Ord} (ho:zc7 o=0) (h:o.kind=3):zq1 o = [⟨1,o.who,o.c,0⟩]:=by
 have:=zec ho
 unfold zq1 zuw;rw[if_pos (by omega),h,if_neg (by decide),this.2.2.2.2.2.2.2 (by omega) (by omega)];rfl
theorem ygf {o:Ord} (ho:zc7 o=0) (h:o.kind=4):zq1 o = [⟨2,o.who,⟨0,0⟩,0⟩]:=by
 have:=zec ho
 unfold zq1 zuw;rw[if_pos (by omega),h,if_neg (by decide),this.2.2.2.2.2.2.2 (by omega) (by omega),this.2.2.2.2.2.2.1 (by omega) (by omega)];rfl
theorem yge {o:Ord} (ho:zc7 o=0) (h:o.kind=5):zq1 o = [⟨3,o.by_,⟨0,0⟩,o.what⟩]:=by
 have:=zec ho
 unfold zq1 zuw;rw[if_pos (by omega),h,if_pos rfl,this.2.2.2.2.2.2.1 (by omega) (by omega)];rfl
theorem z0n (l:List Ord) (w:Wld) (hll:l.length≤9223372036854775807) (hl:zdf w) (h:zb7 l w≠0):Spec Tryz.prog 99 [.c (.sl 6 (l.map zch)),zbk w] [] (.tup [.c (.v (.slice none 0 0)),.c (.v (.slice none 0 0)),.c (.v (.slice none 0 0)),I .i64 (zb7 l w)]) []:=by
 refine spB Tryz.func99 82 [.tmp 4,.tmp 5,.tmp 6,.tmp 7] Tryz.results99 ?_
 try refine xst ?_
 refine caP (z1o l hll) ?_
 try refine xst ?_
 refine cI (fun h1 => ?_) fun h1 => ?_
 ·have e:zb7 l w=zcc l:=by unfold zb7;rw[if_pos h1]
  try refine xst ?_
  (first|(refine zar rfl (Wk.of ?_);(try simp(etaStruct := .none)only[push_cast,zab,seval]);first|done|(simp[e, *];done)|(simp_all[e];done))|(refine zar rfl ?_;(try simp(etaStruct := .none)only[push_cast,zab,seval]);(try simp[e, *]);(try exact wkc)))
 ·try refine xst ?_
  refine caP (ze9 w hl) ?_
  try refine xst ?_
  refine cI (fun h2 => ?_) fun h2 => ?_
  ·have e:zb7 l w=zah w:=by unfold zb7;rw[if_neg (by simpa using h1)]
   try refine xst ?_
   (first|(refine zar rfl (Wk.of ?_);(try simp(etaStruct := .none)only[push_cast,zab,seval]);first|done|(simp[e, *];done)|(simp_all[e];done))|(refine zar rfl ?_;(try simp(etaStruct := .none)only[push_cast,zab,seval]);(try simp[e, *]);(try exact wkc)))
  ·exact absurd (by unfold zb7;rw[if_neg (by simpa using h1)];exact h2) h
theorem z0m (l:List Ord) (w:Wld) (hll:l.length≤9223372036854775807) (hl:zdf w) (ho:zcc l=0) (hw:zah w=0):Spec Tryz.prog 99 [.c (.sl 6 (l.map zch)),zbk w] [] (.tup [.c (.sl 2 ((zbu l w).map zea)),.c (.sl 3 ((zcw l w).map zc8)),.c (.sl 5 ((zbq l w).map zjp)),I .i64 0]) []:=by
 obtain⟨ho1,ho2⟩:=zfy ho
 obtain⟨w1,w2,w3,w4,w5⟩:=zcb hw
 refine spB Tryz.func99 82 [.tmp 4,.tmp 5,.tmp 6,.tmp 7] Tryz.results99 ?_
 try refine xst ?_
 refine caP (z1o l hll) ?_
 try refine xst ?_
 refine cI (fun h1 => ?_) fun h1 => ?_
 ·exact absurd ho h1
 ·try refine xst ?_
  refine caP (ze9 w hl) ?_
  try refine xst ?_
  refine cI (fun h2 => ?_) fun h2 => ?_
  ·exact absurd hw h2
  ·try refine xst ?_
   refine zas (fun x:Nat × List (List Int × Int)=>⟨[(32,I .i64 x.1),(31,I .i64 w.troops.length),(30,.c (.sl 7 (w.troops.map zaw))),(10,.map 1),(3,.ptr 0 0 0),(0,.c (.sl 6 (l.map zch)))],[(0,.blk 28 (zhq w)),(1,.mp false 1 x.2)],2⟩) (fun x:Nat × List (List Int × Int)=>x.1≤w.troops.length∧OwnM w x.1 x.2) (fun x:Nat × List (List Int × Int)=>w.troops.length-x.1) ((0,[])) (⟨Nat.zero_le _,fun i=>rfl,fun j h=>absurd h (Nat.not_lt_zero _)⟩) (To.mk [0,1] rfl rfl (by decide) ?_ ?_) ?_
   ·simp(etaStruct := .none)only[push_cast,zab,seval]
   ·simp(etaStruct := .none)only[push_cast,zab,seval]
   rintro⟨k,es⟩ ⟨hk,hn⟩
   simp only at hk hn
   try refine xst ?_
   refine cI (fun h3 => ?_) fun h3 => ?_
   ·have hlt:k<w.troops.length:=by omega
    try refine xz2 (gd hlt) zae ?_
    refine⟨(k+1,zhe [(w.troops.getD k default).id] (w.troops.getD k default).owner es),⟨by simp only;omega,hn.step hw hlt⟩,by simp only;omega,To.mk [0,1] rfl rfl (by decide) ?_ ?_⟩
    ·(try(refine xz2 (gd hlt) zae ?_;try exact xtI))
    ·(try(refine xz2 (gd hlt) zae ?_;try exact xtI))
   ·obtain rfl:k=w.troops.length:=by omega
    have of:=hn.find
    try refine xst ?_
    refine zas (fun k:Nat=>⟨[(44,I .i64 k),(43,I .i64 l.length),(42,.c (.sl 6 (l.map zch))),(13,.ptr 2 0 0),(10,.map 1),(3,.ptr 0 0 0)],[(0,.blk 28 (zhq w)),(1,.mp false 1 es),(2,.blk 209 [.own 3,.own 4,.own 5]),(3,.row 187 2 ((zbu (l.take k) w).map zea)),(4,.row 189 3 ((zcw (l.take k) w).map zc8)),(5,.row 191 5 ((zbq (l.take k) w).map zjp))],6⟩) (fun k:Nat=>k≤l.length) (fun k:Nat=>l.length-k) (0) (Nat.zero_le _) (((To.nilC 2 0 187 2 209 _ rfl rfl).trans ((To.nilC 2 1 189 3 209 _ rfl rfl).trans (To.nilC 2 2 191 5 209 _ rfl rfl))).trans (To.mk [0,1,2,3,4,5] rfl rfl (by decide) ?_ ?_)) ?_
    ·simp(etaStruct := .none)only[push_cast,zab,seval,List.set_cons_zero,List.set_cons_succ,zbu,zcw,zbq,List.filter_nil,List.flatMap_nil]
    ·simp(etaStruct := .none)only[push_cast,zab,seval]
    rintro k hk
    try refine xst ?_
    refine cI (fun h4 => ?_) fun h4 => ?_
    ·have hlt:k<l.length:=by omega
     have hor:=ho2 _ (za9 l k hlt)
     have hok:=zec hor
     have st1:=zft (fun o=>zb9 o w) zxw l k hlt
     have st2:=zft (fun o=>zb9 o w) zxv l k hlt
     have st3:=zft (fun o=>zb9 o w) zq1 l k hlt
     have fl1:=zdv (fun o=>zb9 o w) zxw zqw (l.take k)
     have fl2:=zdv (fun o=>zb9 o w) zxv zqt (l.take k)
     have fl3:=zdv (fun o=>zb9 o w) zq1 zqu (l.take k)
     rw[List.length_take]at fl1 fl2 fl3
     change zbu (l.take (k+1)) w=zbu (l.take k) w++_ at st1
     change zcw (l.take (k+1)) w=zcw (l.take k) w++_ at st2
     change zbq (l.take (k+1)) w=zbq (l.take k) w++_ at st3
     change (zbu (l.take k) w).length≤_ at fl1
     change (zcw (l.take k) w).length≤_ at fl2
     change (zbq (l.take k) w).length≤_ at fl3
     try refine xz2 (gd hlt) za0 ?_
     refine zmz (fun x:Int × Bool=>⟨[(44,I .i64 k),(43,I .i64 l.length),(42,.c (.sl 6 (l.map zch))),(17,B x.2),(16,I .i64 x.1),(15,.ptr 6 0 0),(13,.ptr 2 0 0),(10,.map 1),(3,.ptr 0 0 0)],[(0,.blk 28 (zhq w)),(1,.mp false 1 es),(2,.blk 209 [.own 3,.own 4,.own 5]),(3,.row 187 2 ((zbu (l.take k) w).map zea)),(4,.row 189 3 ((zcw (l.take k) w).map zc8)),(5,.row 191 5 ((zbq (l.take k) w).map zjp)),(6,.blk 43 [I .i64 (l.getD k default).by_,I .i64 (l.getD k default).kind,I .i64 (l.getD k default).who,I .i64 (l.getD k default).c.x,I .i64 (l.getD k default).c.y,I .i64 (l.getD k default).what])],7⟩) (fun x:Int × Bool=>(x.2&&decide (x.1=(l.getD k default).by_))=zb9 (l.getD k default) w) (fun h5 => ?_) (fun h5 => ?_) ?_
     ·(try replace h5:=xhh h5)
      try refine xz2 (gd hlt) za0 ?_
      (try(refine⟨by kernel_rfl,?_⟩))
      try refine xz2 (gd hlt) za0 ?_
      refine⟨((l.getD k default).by_,decide ((l.getD k default).by_<w.bases.length)),by unfold zb9;rw[if_pos h5];simp,To.mk [0,1,2,3,4,5,6] rfl rfl (by decide) ?_ ?_⟩
      ·(try(refine xz2 (gd hlt) za0 ?_;try exact xtI))
      ·(try(refine xz2 (gd hlt) za0 ?_;try exact xtI))
     ·(try replace h5:=xhh h5)
      try refine xz2 (gd hlt) za0 ?_
      refine⟨(zdk [(l.getD k default).who] es,zmf [(l.getD k default).who] es),by rw[of];unfold zb9;rw[if_neg h5];cases zbx w (l.getD k default).who<;>rfl,To.mk [0,1,2,3,4,5,6] rfl rfl (by decide) ?_ ?_⟩
      ·(try(refine xz2 (gd hlt) za0 ?_;try exact xtI))
      ·(try(refine xz2 (gd hlt) za0 ?_;try exact xtI))
     ·rintro⟨by1,ok1⟩ hx
      simp only at hx
      try refine xz2 (gd hlt) za0 ?_
      refine cI (fun h6 => ?_) fun h6 => ?_
      ·have ha:zb9 (l.getD k default) w=true:=by rw[←hx];simp only[h6.1,h6.2,decide_true,Bool.and_self]
       rw[if_pos ha]at st1 st2 st3
       try refine xz2 (gd hlt) za0 ?_
       have hkind:(l.getD k default).kind=1∨(l.getD k default).kind=2∨(l.getD k default).kind=3∨(l.getD k default).kind=4∨(l.getD k default).kind=5:=by omega
       rcases hkind with h|h|h|h|h
       ·rw[ygh h]at st1;rw[zqs (by omega)]at st2;rw[z32 (by omega)]at st3
        refine zgd [2,3,4,5] (z7p (l.getD k default) (zbu (l.take k) w) (zcw (l.take k) w) (zbq (l.take k) w) h (by omega)) (WkL.refl _) rfl (by decide) (by simp[zcd]) ?_
        try refine xz2 (gd hlt) za0 ?_
        refine⟨k+1,by omega,by omega,To.mk [0,1,2,7,4,5] rfl rfl (by decide) ?_ ?_⟩
        ·(iterate 2((try simp(etaStruct := .none)only[push_cast,zab,seval,st1,st2,st3,List.append_nil,List.map_append,zea]);(try(refine xsu ?_;try exact xtI))))
        ·(try(refine xst ?_;try exact xtI))
       ·rw[zqv (by omega)]at st1;rw[ygd h]at st2;rw[z32 (by omega)]at st3
        refine zgd [2,3,4,5] (ygb (l.getD k default) (zbu (l.take k) w) (zcw (l.take k) w) (zbq (l.take k) w) h (by omega)) (WkL.refl _) rfl (by decide) (by simp[zcd]) ?_
        try refine xz2 (gd hlt) za0 ?_
        refine⟨k+1,by omega,by omega,To.mk [0,1,2,3,7,5] rfl rfl (by decide) ?_ ?_⟩
        ·(iterate 2((try simp(etaStruct := .none)only[push_cast,zab,seval,st1,st2,st3,List.append_nil,List.map_append,zc8]);(try(refine xsu ?_;try exact xtI))))
        ·(try(refine xst ?_;try exact xtI))
       ·rw[zqv (by omega)]at st1;rw[zqs (by omega)]at st2;rw[ygg hor h]at st3
        refine zgd [2,3,4,5] (z7m (l.getD k default) (zbu (l.take k) w) (zcw (l.take k) w) (zbq (l.take k) w) h (by omega)) (WkL.refl _) rfl (by decide) (by simp[zcd]) ?_
        try refine xz2 (gd hlt) za0 ?_
        refine⟨k+1,by omega,by omega,To.mk [0,1,2,3,4,7] rfl rfl (by decide) ?_ ?_⟩
        ·(iterate 2((try simp(etaStruct := .none)only[push_cast,zab,seval,st1,st2,st3,List.append_nil,List.map_append,zjp]);(try(refine xsu ?_;try exact xtI))))
        ·(try(refine xst ?_;try exact xtI))
       ·rw[zqv (by omega)]at st1;rw[zqs (by omega)]at st2;rw[ygf hor h]at st3
        refine zgd [2,3,4,5] (z7o (l.getD k default) (zbu (l.take k) w) (zcw (l.take k) w) (zbq (l.take k) w) h (by omega)) (WkL.refl _) rfl (by decide) (by simp[zcd]) ?_
        try refine xz2 (gd hlt) za0 ?_
        refine⟨k+1,by omega,by omega,To.mk [0,1,2,3,4,7] rfl rfl (by decide) ?_ ?_⟩
        ·(iterate 2((try simp(etaStruct := .none)only[push_cast,zab,seval,st1,st2,st3,List.append_nil,List.map_append,zjp]);(try(refine xsu ?_;try exact xtI))))
        ·(try(refine xst ?_;try exact xtI))
       ·rw[zqv (by omega)]at st1;rw[zqs (by omega)]at st2;rw[yge hor h]at st3
        refine zgd [2,3,4,5] (z7n (l.getD k default) (zbu (l.take k) w) (zcw (l.take k) w) (zbq (l.take k) w) h (by omega)) (WkL.refl _) rfl (by decide) (by simp[zcd]) ?_
        try refine xz2 (gd hlt) za0 ?_
        refine⟨k+1,by omega,by omega,To.mk [0,1,2,3,4,7] rfl rfl (by decide) ?_ ?_⟩
        ·(iterate 2((try simp(etaStruct := .none)only[push_cast,zab,seval,st1,st2,st3,List.append_nil,List.map_append,zjp]);(try(refine xsu ?_;try exact xtI))))
        ·(try(refine xst ?_;try exact xtI))
      ·have ha:zb9 (l.getD k default) w=false:=by
        rw[←hx]
        rcases h6 with h|h
        ·rw[h];rfl
        ·rw[decide_eq_false h,Bool.and_false]
       rw[ha]at st1 st2 st3
       simp only[Bool.false_eq_true,if_false,List.append_nil]at st1 st2 st3
       try refine xz2 (gd hlt) za0 ?_
       refine⟨k+1,by omega,by omega,To.mk [0,1,2,3,4,5] rfl rfl (by decide) ?_ ?_⟩
       ·(try(refine xz3 st1 st2 st3 ?_;try exact xtI))
       ·(try(refine xz2 (gd hlt) za0 ?_;try exact xtI))
    ·obtain rfl:k=l.length:=by omega
     iterate 2(try simp(etaStruct := .none)only[push_cast,zab,seval,List.take_length];try refine xsu ?_)
     (try(refine⟨by kernel_rfl,?_⟩))
     iterate 2(try simp(etaStruct := .none)only[push_cast,zab,seval,List.take_length];try refine xsu ?_)
     exact xrz rfl
end Go.Proofs.YtbapdgmcndgieaaGreat
namespace Go.Proofs.YtbapdgmcndgieaaGreat
set_option linter.all false
open Go.RowKit
set_option maxRecDepth 100000
theorem z3g (w:Wld) (d:Ded):(ze1 w d).1.now=w.now:=by
 unfold ze1
 repeat' split
 all_goals rfl
theorem zy4 (l:List Ded):∀w,(za6 w l).1.now=w.now:=by
 induction l with
 | nil=>intro w;rfl
 | cons a r ih=>intro w;rw[za6,ih,z3g]
def tkA (w:Wld) (l:List Ord):Wld:=zc3 w (zbu l w)
def tkB (WR:Cel→List Int) (w:Wld) (l:List Ord):Wld:=zze (tkA w l) (zew w.f WR (zcw l w) (tkA w l).troops).1
def tkC (WR:Cel→List Int) (w:Wld) (l:List Ord):Wld:=(za6 (tkB WR w l) (zbq l w)).1
def z1s (w:Wld):Wld:={ w with now:=w.now+1 }
def zgn (WR:Cel→List Int) (w:Wld) (l:List Ord):Wld:=z1s (tkC WR w l)
def zzz (w:Wld) (l:List Ord):List Int:=zyx w (zbu l w)
def zzy (WR:Cel→List Int) (w:Wld) (l:List Ord):List Int:=(zew w.f WR (zcw l w) (tkA w l).troops).2
def zz0 (WR:Cel→List Int) (w:Wld) (l:List Ord):List Bool:=(za6 (tkB WR w l) (zbq l w)).2
def zb3 (l:List Ord) (w:Wld):Int:=if zb7 l w≠0 then zb7 l w else if 1000000≤w.now then 6 else 0
theorem zdx {l:List Ord} {w:Wld} (h:zb7 l w=0):zcc l=0∧zah w=0:=by
 have ho:zcc l=0:=by
  unfold zb7 at h
  split at h
  ·rename_i h1;exact absurd h h1
  ·rename_i h1;simpa using h1
 exact⟨ho,by unfold zb7 at h;rwa [if_neg (by simp[ho])]at h⟩
theorem zns {l:List Ord} {w:Wld} (h:zcc l=0):(zbu l w).length≤100∧(zcw l w).length≤100∧(zbq l w).length≤100:=by
 obtain⟨o1,o2⟩:=zfy h
 have f1:=zdv (fun o=>zb9 o w) zxw zqw l
 have f2:=zdv (fun o=>zb9 o w) zxv zqt l
 have f3:=zdv (fun o=>zb9 o w) zq1 zqu l
 change (zbu l w).length≤_ at f1
 change (zcw l w).length≤_ at f2
 change (zbq l w).length≤_ at f3
 omega
theorem zl0 {w:Wld} (h:Right w) (l:List Ord):Right (tkA w l):=zrn h _ fun id=>(zum w _ id).1
theorem zlz {w:Wld} (h:Right w) {WR:Cel→List Int} (hWR:∀a,zai w.f [a] (WR a)) (l:List Ord):Right (tkB WR w l):=zo8 (w:=tkA w l) (zl0 h l) hWR _
theorem zly {w:Wld} (h:Right w) {WR:Cel→List Int} (hWR:∀a,zai w.f [a] (WR a)) (l:List Ord):Right (tkC WR w l):=zh7 _ (zlz h hWR l)
theorem zts (WR:Cel→List Int) (w:Wld) (l:List Ord):(tkC WR w l).now=w.now:=by unfold tkC;rw[zy4];rfl
theorem ztz {w:Wld} (h:Right w) (hn:w.now<1000000):Right (z1s w):=by
 have:=h.nw
 refine⟨h.f,h.nb,h.nt,h.sl,h.ml,h.nx,?_,h.base,h.mine,fun k hk => ?_,h.ord⟩
 ·change 0≤w.now+1∧w.now+1≤1000000;omega
 ·have t:=h.trp k hk
  exact⟨t.kind,t.id,t.owner,t.at_,t.x,t.y,t.life,t.load⟩
theorem zjv {w:Wld} (h:Right w) {WR:Cel→List Int} (hWR:∀a,zai w.f [a] (WR a)) (l:List Ord) (hn:w.now<1000000):Right (zgn WR w l):=ztz (zly h hWR l) (by rw[zts];exact hn)
end Go.Proofs.YtbapdgmcndgieaaGreat
namespace Go.Proofs.YtbapdgmcndgieaaGreat
set_option linter.all false
open Go.RowKit
set_option maxRecDepth 100000
set_option maxHeartbeats 1000000
abbrev z5e (g m:List Int) (d:List Bool):AV := .agg [.c (.sl 1 (g.map zac)),.c (.sl 1 (m.map zac)),.c (.sl 1 (d.map ze2))]
theorem z9o (w:Wld) (l:List Ord) (WR:Cel→List Int) (hWR:∀a,zai w.f [a] (WR a)) (hll:l.length≤9223372036854775807) (h:zb3 l w=0):Spec Tryz.prog 61 [zbk w,.c (.sl 6 (l.map zch))] [] (.tup [zbk (zgn WR w l),z5e (zzz w l) (zzy WR w l) (zz0 WR w l),I .i64 0]) []:=by
 have hs:zb7 l w=0:=by unfold zb3 at h;split at h;rename_i h1;exact absurd h h1;rename_i h1;simpa using h1
 have hn:w.now<1000000:=by unfold zb3 at h;rw[if_neg (by simp[hs])]at h;split at h;exact absurd h (by decide);omega
 obtain⟨ho,hw⟩:=zdx hs
 have R0:=zds hw
 have RA:=zl0 R0 l
 have RB:=zlz R0 hWR l
 have RC:=zly R0 hWR l
 obtain⟨n1,n2,n3⟩:=zns (w:=w) ho
 have hnow:(tkC WR w l).now=w.now:=zts WR w l
 have hnw:=R0.nw
 have e1:zby w (zbu l w)=0:=by unfold zby;rw[if_neg (by simp[hw]),if_neg (by omega)]
 have HK:=zsl w (zbu l w) R0.l (by omega) e1
 rw[e1,show zfe w (zbu l w)=tkA w l from by unfold zfe;rw[if_pos e1];rfl,show zso w (zbu l w)=zzz w l from by unfold zso;rw[if_pos e1];rfl]at HK
 have e2:zll (tkA w l) (zcw l w)=0:=by unfold zll;rw[if_neg (by simp[RA.e]),if_neg (by omega)]
 have MK:=z5y (tkA w l) (zcw l w) WR hWR RA.l (by omega)
 rw[e2,if_pos rfl,if_pos rfl,show zze (tkA w l) (zew (tkA w l).f WR (zcw l w) (tkA w l).troops).1=tkB WR w l from rfl,show (zew (tkA w l).f WR (zcw l w) (tkA w l).troops).2=zzy WR w l from rfl]at MK
 have DK:=ykx (tkB WR w l) (zbq l w) RB (by omega)
 rw[show (za6 (tkB WR w l) (zbq l w)).1=tkC WR w l from rfl,show (za6 (tkB WR w l) (zbq l w)).2=zz0 WR w l from rfl]at DK
 have hup:IntKind.i64.wrap ((tkC WR w l).now+1)=w.now+1:=by rw[hnow];exact zaq _ (by omega) (by omega)
 have htv:zgn WR w l = { tkC WR w l with now:=w.now+1 }:=by unfold zgn z1s;rw[hnow]
 rw[htv]
 refine spB Tryz.func61 62 [.cell 4 28,.cell 5 103,.tmp 6] Tryz.results61 ?_
 try refine xst ?_
 refine caP (z0m l w hll R0.l ho hw) ?_
 try refine xst ?_
 refine cI (fun h1 => ?_) fun h1 => ?_
 ·omega
 ·try refine xst ?_
  refine cI (fun h2 => ?_) fun h2 => ?_
  ·simp at h2
  ·iterate 2(try simp(etaStruct := .none)only[push_cast,zab,seval,hup];try refine xsu ?_)
   refine caP (HK) ?_
   iterate 2(try simp(etaStruct := .none)only[push_cast,zab,seval,hup];try refine xsu ?_)
   refine caP (MK) ?_
   iterate 2(try simp(etaStruct := .none)only[push_cast,zab,seval,hup];try refine xsu ?_)
   refine caP (DK) ?_
   iterate 2(try simp(etaStruct := .none)only[push_cast,zab,seval,hup];try refine xsu ?_)
   (try(refine⟨by kernel_rfl,?_⟩))
   iterate 2(try simp(etaStruct := .none)only[push_cast,zab,seval,hup];try refine xsu ?_)
   exact xrz rfl
theorem z9q (w:Wld) (l:List Ord) (hl:zdf w) (hll:l.length≤9223372036854775807) (h:zb7 l w≠0):Spec Tryz.prog 61 [zbk w,.c (.sl 6 (l.map zch))] [] (.tup [zbk default,z5e [] [] [],I .i64 (zb7 l w)]) []:=by
 refine spB Tryz.func61 62 [.cell 4 28,.cell 5 103,.tmp 6] Tryz.results61 ?_
 try refine xst ?_
 refine caP (z0n l w hll hl h) ?_
 try refine xst ?_
 refine cI (fun h1 => ?_) fun h1 => ?_
 ·exact absurd h1.1 h
 ·try refine xst ?_
  refine cI (fun h2 => ?_) fun h2 => ?_
  ·try refine xst ?_
   exact xrz rfl
  ·exact absurd h2 h
theorem z9p (w:Wld) (l:List Ord) (hl:zdf w) (hll:l.length≤9223372036854775807) (hs:zb7 l w=0) (hn:1000000≤w.now):Spec Tryz.prog 61 [zbk w,.c (.sl 6 (l.map zch))] [] (.tup [zbk default,z5e [] [] [],I .i64 6]) []:=by
 obtain⟨ho,hw⟩:=zdx hs
 refine spB Tryz.func61 62 [.cell 4 28,.cell 5 103,.tmp 6] Tryz.results61 ?_
 try refine xst ?_
 refine caP (z0m l w hll hl ho hw) ?_
 try refine xst ?_
 refine cI (fun h1 => ?_) fun h1 => ?_
 ·try refine xst ?_
  refine cI (fun h2 => ?_) fun h2 => ?_
  ·try refine xst ?_
   exact xrz rfl
  ·simp at h2
 ·omega
end Go.Proofs.YtbapdgmcndgieaaGreat
namespace Go.Proofs.YtbapdgmcndgieaaGreat
set_option linter.all false
open Go.RowKit
set_option maxRecDepth 100000
set_option maxHeartbeats 2000000
theorem yiu (wl:List Cel) (h1:1<wl.length) (o:Trp):Spec Tryz.prog 125 [z38 o,.fel 1 [[.sl 2 (wl.map zaz)]] 0 0] [] (B (decide (o.c=wl.getD 1 default))) []:=by
 have e:=zbz o.c (wl.getD 1 default)
 refine spB Tryz.func125 10 [.tmp 3] Tryz.results125 ?_
 try refine xz2 (gd h1) zao ?_
 (try(refine⟨by kernel_rfl,?_⟩))
 try refine xz2 (gd h1) zao ?_
 (first|(refine zar rfl (Wk.of ?_);(try simp(etaStruct := .none)only[push_cast,zab,seval]);first|done|(simp[e, *];done)|(simp_all[e];done))|(refine zar rfl ?_;(try simp(etaStruct := .none)only[push_cast,zab,seval]);(try simp[e, *]);(try exact wkc)))
theorem z16 (w:Wld) (l:List Gop) (WR:Cel→List Int) (hWR:∀a,zai w.f [a] (WR a)) (hl:w.f.p.length≤9223372036854775807) (hll:l.length≤1000) (hnt:w.troops.length≤100):Spec Tryz.prog 90 [zbk w,.c (.sl 3 (l.map zc8))] [] (.tup [zbk (zze w (zew w.f WR l w.troops).1),.c (.sl 1 ((zew w.f WR l w.troops).2.map zac))]) []:=by
 refine spB Tryz.func90 75 [.cell 4 28,.tmp 5] Tryz.results90 ?_
 try refine xst ?_
 refine caM [] (zcx w.troops (by omega)) ?_
 try refine xst ?_
 refine zas (fun k:Nat=>⟨[(21,I .i64 k),(20,I .i64 w.troops.length),(19,.own 1),(6,.own 2),(4,.ptr 3 0 0),(2,.ptr 0 0 0),(1,.c (.sl 3 (l.map zc8)))],[(0,.blk 28 (ygt w (.own 1))),(1,.row 92 7 ((zd4 w.f WR l w.troops k).1.map zaw)),(2,.row 3 1 ((zd4 w.f WR l w.troops k).2.map zac)),(3,.blk 28 [I .i64 0,I .i64 0,.c (.v (.slice none 0 0)),.c (.v (.slice none 0 0)),.c (.v (.slice none 0 0)),.c (.v (.slice none 0 0)),.c (.v (.slice none 0 0)),I .i64 0,I .i64 0])],4⟩) (fun k:Nat=>k≤w.troops.length) (fun k:Nat=>w.troops.length-k) (0) (Nat.zero_le _) ((To.nil 6 3 1 rfl).trans (To.mk [0,2,3,1] rfl rfl (by decide) ?_ ?_)) ?_
 ·simp(etaStruct := .none)only[push_cast,zab,seval,zie,List.map_nil]
 ·simp(etaStruct := .none)only[push_cast,zab,seval]
 rintro k hk
 have hln:=zhg w.f WR l w.troops k
 have hsk:=zf3 w.f WR l w.troops k
 obtain⟨S,hS⟩:∃S,S=zd4 w.f WR l w.troops k:=⟨_,rfl⟩
 rw[←hS]at hln hsk
 iterate 2(try simp(etaStruct := .none)only[push_cast,zab,seval,←hS,hln.1];try refine xsu ?_)
 refine cI (fun h1 => ?_) fun h1 => ?_
 ·have hlt:k<S.1.length:=by omega
  iterate 2(try simp(etaStruct := .none)only[push_cast,zab,seval,←hS,hln.1,zaa _ _ _ hlt,zaw];try refine xsu ?_)
  refine zas (fun j:Nat=>⟨[(28,I .i64 j),(27,I .i64 l.length),(26,.c (.sl 3 (l.map zc8))),(21,I .i64 k),(20,I .i64 w.troops.length),(19,.own 1),(8,.ptr 4 0 0),(7,I .i64 k),(6,.own 2),(4,.ptr 3 0 0),(2,.ptr 0 0 0),(1,.c (.sl 3 (l.map zc8)))],[(0,.blk 28 (ygt w (.own 1))),(1,.row 92 7 (S.1.map zaw)),(2,.row 3 1 (S.2.map zac)),(3,.blk 28 [I .i64 0,I .i64 0,.c (.v (.slice none 0 0)),.c (.v (.slice none 0 0)),.c (.v (.slice none 0 0)),.c (.v (.slice none 0 0)),.c (.v (.slice none 0 0)),I .i64 0,I .i64 0]),(4,.blk 92 (ygo (S.1.getD k default)))],5⟩) (fun j:Nat=>j≤l.length∧∀i,i<j→¬(l.getD i default).id=(S.1.getD k default).id) (fun j:Nat=>l.length-j) (0) (⟨Nat.zero_le _,fun i h=>absurd h (Nat.not_lt_zero _)⟩) (To.mk [0,1,2,3,4] rfl rfl (by decide) ?_ ?_) ?_
  ·simp(etaStruct := .none)only[push_cast,zab,seval,←hS]
  ·simp(etaStruct := .none)only[push_cast,zab,seval]
  rintro j ⟨hj,hno⟩
  iterate 2(try simp(etaStruct := .none)only[push_cast,zab,seval,←hS,hln.1,zaa _ _ _ hlt,zaw];try refine xsu ?_)
  refine cI (fun h2 => ?_) fun h2 => ?_
  ·have hjl:j<l.length:=by omega
   iterate 2(try simp(etaStruct := .none)only[push_cast,zab,seval,←hS,hln.1,zaa _ _ _ hlt,zaw,zaa _ _ _ hjl,zc8];try refine xsu ?_)
   refine cI (fun h3 => ?_) fun h3 => ?_
   ·have hno2:∀i,i<j+1→¬(l.getD i default).id=(S.1.getD k default).id:=fun i hi=>by
     rcases Nat.lt_or_ge i j with h|h
     ·exact hno i h
     ·rw[show i=j by omega];exact h3
    iterate 2(try simp(etaStruct := .none)only[push_cast,zab,seval,←hS,hln.1,zaa _ _ _ hlt,zaw,zaa _ _ _ hjl,zc8];try refine xsu ?_)
    refine⟨j+1,⟨by omega,hno2⟩,by omega,To.mk [0,1,2,3,4] rfl rfl (by decide) ?_ ?_⟩
    ·(iterate 2((try simp(etaStruct := .none)only[push_cast,zab,seval,←hS,hln.1,zaa _ _ _ hlt,zaw,zaa _ _ _ hjl,zc8]);(try(refine xsu ?_;try exact xtI))))
    ·(iterate 2((try simp(etaStruct := .none)only[push_cast,zab,seval,←hS,hln.1,zaa _ _ _ hlt,zaw,zaa _ _ _ hjl,zc8]);(try(refine xsu ?_;try exact xtI))))
   ·have hg:zkr l (S.1.getD k default).id=some (l.getD j default):=zjh _ l j hjl (by simpa using h3) (fun i hi=>by simpa using hno i hi)
    obtain⟨wl,hwl⟩:∃wl,wl=zxy w.f WR (S.1.getD k default).c (l.getD j default).to:=⟨_,rfl⟩
    have hwy:(if zfw (WR (S.1.getD k default).c) w.f (S.1.getD k default).c (l.getD j default).to=0 then zvb (WR (S.1.getD k default).c) w.f (S.1.getD k default).c (l.getD j default).to else [])=wl:=hwl.symm
    have hst:=znr (f:=w.f) (WR:=WR) (ts:=S.1) hg
    rw[←hwl]at hst
    iterate 2(try simp(etaStruct := .none)only[push_cast,zab,seval,←hS,hln.1,zaa _ _ _ hlt,zaw,zaa _ _ _ hjl,zc8];try refine xsu ?_)
    refine caP (z9j w.f (S.1.getD k default).c (l.getD j default).to hl (WR (S.1.getD k default).c) (hWR _)) ?_
    rw[hwy]
    iterate 2(try simp(etaStruct := .none)only[push_cast,zab,seval,←hS,hln.1,zaa _ _ _ hlt,zaw,zaa _ _ _ hjl,zc8];try refine xsu ?_)
    refine zg2 (fun hcc=>ztn 125 [] [.fel 1 [[.sl 2 (wl.map zaz)]] 0 0] S.1 (fun o=>decide (o.c=wl.getD 1 default)) (by omega) (fun o _=>yiu wl (by simp only[decide_eq_true_eq]at hcc;omega) o) (fun _=>rfl) (fun _=>rfl)) (WkL.refl _) rfl (by intro hc;(try simp(etaStruct := .none)only[push_cast,zab,seval]);(try simp_all)) ?_
    iterate 2(try simp(etaStruct := .none)only[push_cast,zab,seval,←hS,hln.1,zaa _ _ _ hlt,zaw,zaa _ _ _ hjl,zc8];try refine xsu ?_)
    refine cI (fun h4 => ?_) fun h4 => ?_
    ·have hB1:1<wl.length:=by omega
     have hms:zd3 w.f WR l S k=(S.1.set k (zre (S.1.getD k default) (wl.getD 1 default)),S.2 ++ [(S.1.getD k default).id]):=zmh (by
      rw[hst,if_neg]
      rintro (h|h)
      ·omega
      ·rw[h]at h4;simp at h4)
     iterate 2(try simp(etaStruct := .none)only[push_cast,zab,seval,←hS,hln.1,zaa _ _ _ hlt,zaw,zaa _ _ _ hjl,zc8,zaa _ _ _ hB1,zaz];try refine xsu ?_)
     (try(refine⟨by kernel_rfl,?_⟩))
     iterate 2(try simp(etaStruct := .none)only[push_cast,zab,seval,←hS,hln.1,zaa _ _ _ hlt,zaw,zaa _ _ _ hjl,zc8,zaa _ _ _ hB1,zaz];try refine xsu ?_)
     refine⟨k+1,by omega,by omega,To.mk [0,1,44,3] rfl rfl (by decide) ?_ ?_⟩
     ·(iterate 2((try simp(etaStruct := .none)only[push_cast,zab,seval,hsk,hms,List.map_set,List.map_append,zaw,zre,zac]);(try(refine xsu ?_;try exact xtI))))
     ·(iterate 2((try simp(etaStruct := .none)only[push_cast,zab,seval,←hS,hln.1,zaa _ _ _ hlt,zaw,zaa _ _ _ hjl,zc8,zaa _ _ _ hB1,zaz]);(try(refine xsu ?_;try exact xtI))))
    ·have hms:zd3 w.f WR l S k=S:=zex (by
      rw[hst,if_pos]
      rcases h4 with h|h
      ·exact .inl (by omega)
      ·exact .inr h)
     iterate 2(try simp(etaStruct := .none)only[push_cast,zab,seval,←hS,hln.1,zaa _ _ _ hlt,zaw,zaa _ _ _ hjl,zc8];try refine xsu ?_)
     refine⟨k+1,by omega,by omega,To.mk [0,1,2,3] rfl rfl (by decide) ?_ ?_⟩
     ·(try(refine xz2 hsk hms ?_;try exact xtI))
     ·(iterate 2((try simp(etaStruct := .none)only[push_cast,zab,seval,←hS,hln.1,zaa _ _ _ hlt,zaw,zaa _ _ _ hjl,zc8]);(try(refine xsu ?_;try exact xtI))))
  ·have hnone:zkr l (S.1.getD k default).id=none:=by
    unfold zkr
    rw[List.find?_eq_none]
    intro g hg
    obtain⟨i,hi,rfl⟩:=mem_getD.1 hg
    simpa using hno i (by omega)
   have hms:zd3 w.f WR l S k=S:=zex (by unfold zoz;rw[hnone])
   iterate 2(try simp(etaStruct := .none)only[push_cast,zab,seval,←hS,hln.1,zaa _ _ _ hlt,zaw];try refine xsu ?_)
   refine⟨k+1,by omega,by omega,To.mk [0,1,2,3] rfl rfl (by decide) ?_ ?_⟩
   ·(try(refine xz2 hsk hms ?_;try exact xtI))
   ·(iterate 2((try simp(etaStruct := .none)only[push_cast,zab,seval,←hS,hln.1,zaa _ _ _ hlt,zaw]);(try(refine xsu ?_;try exact xtI))))
 ·obtain rfl:k=w.troops.length:=by omega
  have hmv:zew w.f WR l w.troops=S:=hS.symm
  rw[hmv]
  iterate 2(try simp(etaStruct := .none)only[push_cast,zab,seval,←hS,hln.1];try refine xsu ?_)
  refine zbe rfl (by repeat' (first|exact trivial|exact rfl|refine⟨?_,?_⟩)) (Wk.of ?_)
  first|rfl|kernel_rfl
theorem z8o (a b:Cel) (ha : -1000000≤a.x∧a.x≤1000000 ∧ -1000000≤a.y∧a.y≤1000000):Spec Tryz.prog 161 [zem a,zem b] [] (B (z4c a b)) []:=by
 refine spB Tryz.func161 25 [.tmp 4] Tryz.results161 ?_
 try refine xst ?_
 refine caP (zay b.x (a.x-1) (a.x+1)) ?_
 try refine xst ?_
 refine gcP (fun hcc=>zay b.y (a.y-1) (a.y+1)) ?_
 try refine xst ?_
 (first|(refine zar rfl (Wk.of ?_);(try simp(etaStruct := .none)only[push_cast,zab,seval]);first|done|(simp[z4c, *];done)|(simp_all[z4c];done))|(refine zar rfl ?_;(try simp(etaStruct := .none)only[push_cast,zab,seval]);(try simp[z4c, *]);(try exact wkc)))
abbrev zqi (d:Ded):List PV := [pI d.kind,pI d.who,pI d.c.x,pI d.c.y,pI d.what]
theorem zl4 (t:Trp) (d:Ded):Spec Tryz.prog 160 ([] ++ [z38 t] ++ [.fel 5 [zqi d] 0 0]) [] (B (zgh d.who t)) []:=by
 refine spB Tryz.func160 9 [.tmp 3] Tryz.results160 ?_
 try refine xst ?_
 (first|(refine zar rfl (Wk.of ?_);(try simp(etaStruct := .none)only[push_cast,zab,seval]);first|done|(simp[zgh, *];done)|(simp_all[zgh];done))|(refine zar rfl ?_;(try simp(etaStruct := .none)only[push_cast,zab,seval]);(try simp[zgh, *]);(try exact wkc)))
theorem yei (t:Trp) (c:Cel):Spec Tryz.prog 162 ([] ++ [z38 t] ++ [.fel 2 [[pI c.x,pI c.y]] 0 0]) [] (B (decide (t.c=c))) []:=by
 refine spB Tryz.func162 8 [.tmp 3] Tryz.results162 ?_
 try refine xz1 zbz ?_
 exact xrz rfl
theorem ykm (w:Wld) (d:Ded) (hw:Right w) (h:d.kind≠1∧d.kind≠2∧d.kind≠3):Spec Tryz.prog 126 [zbk w,zkc d] [] (.tup [zbk w,B false]) []:=by
 have p1:=hw.places
 have p2:=hw.nb
 have p3:=hw.sl
 have p4:=hw.ml
 have p5:=hw.nt
 refine spB Tryz.func126 292 [.cell 4 28,.tmp 5] Tryz.results126 ?_
 try refine xst ?_
 refine caM [] (zbf w.stocks (by omega)) ?_
 try refine xst ?_
 refine caM [] (zbf w.mines (by omega)) ?_
 try refine xst ?_
 refine caM [] (zcx w.troops (by omega)) ?_
 try refine xst ?_
 (try(refine⟨by kernel_rfl,?_⟩))
 try refine xst ?_
 refine zbv (zhx _ [] [.fel 5 [zqi d] 0 0] w.troops (zgh d.who) (by omega) (fun t _=>zl4 t d) (fun _=>rfl) (fun _=>rfl)) (WkL.refl _) rfl ?_
 try refine xst ?_
 refine cI (fun h1 => ?_) fun h1 => ?_
 ·exfalso;omega
 ·try refine xst ?_
  refine cI (fun h2 => ?_) fun h2 => ?_
  ·exfalso;omega
  ·try refine xst ?_
   refine cI (fun h3 => ?_) fun h3 => ?_
   ·exfalso;omega
   ·try refine xst ?_
    exact xrz rfl
theorem yao (w:Wld) (d:Ded) (hw:Right w) (h:d.kind=1∨d.kind=2) (hf:w.troops.findIdx? (zgh d.who)=none) (hpos:0<w.troops.length):Spec Tryz.prog 126 [zbk w,zkc d] [] (.tup [zbk w,B false]) []:=by
 have p1:=hw.places
 have p2:=hw.nb
 have p3:=hw.sl
 have p4:=hw.ml
 have p5:=hw.nt
 have hz:ze4 (zgh d.who) w.troops = -1:=by unfold ze4;rw[hf]
 have hz2:(ze4 (zgh d.who) w.troops).toNat=0:=by rw[hz];rfl
 obtain⟨o,eo,ho,hs⟩:=zn2 hw hpos
 refine spB Tryz.func126 292 [.cell 4 28,.tmp 5] Tryz.results126 ?_
 try refine xz6 hz2 (gd hpos) zae eo (gd ho) zao ?_
 refine caM [] (zbf w.stocks (by omega)) ?_
 try refine xz6 hz2 (gd hpos) zae eo (gd ho) zao ?_
 refine caM [] (zbf w.mines (by omega)) ?_
 try refine xz6 hz2 (gd hpos) zae eo (gd ho) zao ?_
 refine caM [] (zcx w.troops (by omega)) ?_
 try refine xz6 hz2 (gd hpos) zae eo (gd ho) zao ?_
 (try(refine⟨by kernel_rfl,?_⟩))
 try refine xz6 hz2 (gd hpos) zae eo (gd ho) zao ?_
 refine zbv (zhx _ [] [.fel 5 [zqi d] 0 0] w.troops (zgh d.who) (by omega) (fun t _=>zl4 t d) (fun _=>rfl) (fun _=>rfl)) (WkL.refl _) rfl ?_
 try refine xz6 hz2 (gd hpos) zae eo (gd ho) zao ?_
 refine cI (fun h1 => ?_) fun h1 => ?_
 ·try refine xz6 hz2 (gd hpos) zae eo (gd ho) zao ?_
  repeat(with_reducible refine And.intro ?_ ?_;· (simp[hz];done))
  refine gcP (fun hcc=>zyw w.f d.c hw.f) ?_
  try refine xz6 hz2 (gd hpos) zae eo (gd ho) zao ?_
  refine zje ?_ ?_
  ·simp[hz]
  try refine xz6 hz2 (gd hpos) zae eo (gd ho) zao ?_
  (try(refine⟨by kernel_rfl,?_⟩))
  try refine xz6 hz2 (gd hpos) zae eo (gd ho) zao ?_
  refine cI (fun h2 => ?_) fun h2 => ?_
  ·try refine xz6 hz2 (gd hpos) zae eo (gd ho) zao ?_
   exact xrz rfl
  ·exact absurd h2 (by decide)
 ·try refine xz6 hz2 (gd hpos) zae eo (gd ho) zao ?_
  refine cI (fun h3 => ?_) fun h3 => ?_
  ·try refine xz6 hz2 (gd hpos) zae eo (gd ho) zao ?_
   repeat(with_reducible refine And.intro ?_ ?_;· (simp[hz];done))
   refine zje ?_ ?_
   ·simp[hz]
   try refine xz6 hz2 (gd hpos) zae eo (gd ho) zao ?_
   (try(refine⟨by kernel_rfl,?_⟩))
   try refine xz6 hz2 (gd hpos) zae eo (gd ho) zao ?_
   refine cI (fun h4 => ?_) fun h4 => ?_
   ·try refine xz6 hz2 (gd hpos) zae eo (gd ho) zao ?_
    exact xrz rfl
   ·exact absurd h4 (by decide)
  ·exfalso;omega
theorem z5g (w:Wld) (d:Ded) (hw:Right w) (h:d.kind=1∨d.kind=2) (ht:w.troops = []):Spec Tryz.prog 126 [zbk w,zkc d] [] (.tup [zbk w,B false]) []:=by
 have p1:=hw.places
 have p2:=hw.nb
 have p3:=hw.sl
 have p4:=hw.ml
 have p5:=hw.nt
 have hz:ze4 (zgh d.who) ([]:List Trp) = -1:=rfl
 have hcl:Spec Tryz.prog 38 [.c (.sl 7 [])] [] (.own 0) [.row 92 7 []]:=zcx [] (by simp)
 have hix:Spec Tryz.prog 159 [.c (.sl 7 []),.clo (.func 160) [] [.fel 5 [zqi d] 0 0]] [] (I .i64 (ze4 (zgh d.who) [])) []:=zhx _ [] [.fel 5 [zqi d] 0 0] [] (zgh d.who) (by simp) (fun t _=>zl4 t d) (fun _=>rfl) (fun _=>rfl)
 obtain⟨wf,wb,ws,wm,wt,wn,wo⟩:=w
 simp only at ht p1 p2 p3 p4 p5
 subst ht
 refine spB Tryz.func126 292 [.cell 4 28,.tmp 5] Tryz.results126 ?_
 iterate 2(try simp(etaStruct := .none)only[push_cast,zab,seval,List.getD_nil];try refine xsu ?_)
 refine caM [] (zbf ws (by omega)) ?_
 iterate 2(try simp(etaStruct := .none)only[push_cast,zab,seval,List.getD_nil];try refine xsu ?_)
 refine caM [] (zbf wm (by omega)) ?_
 iterate 2(try simp(etaStruct := .none)only[push_cast,zab,seval,List.getD_nil];try refine xsu ?_)
 refine caM [] (hcl) ?_
 iterate 2(try simp(etaStruct := .none)only[push_cast,zab,seval,List.getD_nil];try refine xsu ?_)
 (try(refine⟨by kernel_rfl,?_⟩))
 iterate 2(try simp(etaStruct := .none)only[push_cast,zab,seval,List.getD_nil];try refine xsu ?_)
 refine zbv (hix) (WkL.refl _) rfl ?_
 iterate 2(try simp(etaStruct := .none)only[push_cast,zab,seval,List.getD_nil];try refine xsu ?_)
 refine cI (fun h1 => ?_) fun h1 => ?_
 ·iterate 2(try simp(etaStruct := .none)only[push_cast,zab,seval,List.getD_nil];try refine xsu ?_)
  repeat(with_reducible refine And.intro ?_ ?_;· (simp[hz];done))
  refine zje ?_ ?_
  ·simp[hz]
  iterate 2(try simp(etaStruct := .none)only[push_cast,zab,seval,List.getD_nil];try refine xsu ?_)
  repeat(with_reducible refine And.intro ?_ ?_;· (simp[hz];done))
  refine zje ?_ ?_
  ·simp[hz]
  iterate 2(try simp(etaStruct := .none)only[push_cast,zab,seval,List.getD_nil];try refine xsu ?_)
  (try(refine⟨by kernel_rfl,?_⟩))
  iterate 2(try simp(etaStruct := .none)only[push_cast,zab,seval,List.getD_nil];try refine xsu ?_)
  refine cI (fun h2 => ?_) fun h2 => ?_
  ·iterate 2(try simp(etaStruct := .none)only[push_cast,zab,seval,List.getD_nil];try refine xsu ?_)
   exact xrz rfl
  ·simp[hz]at h2
 ·iterate 2(try simp(etaStruct := .none)only[push_cast,zab,seval,List.getD_nil];try refine xsu ?_)
  refine cI (fun h3 => ?_) fun h3 => ?_
  ·iterate 2(try simp(etaStruct := .none)only[push_cast,zab,seval,List.getD_nil];try refine xsu ?_)
   repeat(with_reducible refine And.intro ?_ ?_;· (simp[hz];done))
   refine zje ?_ ?_
   ·simp[hz]
   iterate 2(try simp(etaStruct := .none)only[push_cast,zab,seval,List.getD_nil];try refine xsu ?_)
   (try(refine⟨by kernel_rfl,?_⟩))
   iterate 2(try simp(etaStruct := .none)only[push_cast,zab,seval,List.getD_nil];try refine xsu ?_)
   refine cI (fun h4 => ?_) fun h4 => ?_
   ·iterate 2(try simp(etaStruct := .none)only[push_cast,zab,seval,List.getD_nil];try refine xsu ?_)
    exact xrz rfl
   ·simp[hz]at h4
  ·exfalso;omega
theorem z08 (w:Wld) (d:Ded) (j:Nat) (hw:Right w) (h:d.kind=1) (hf:w.troops.findIdx? (zgh d.who)=some j) (b:Bool) (W:Wld) (hW:(zcz w d j=true→W=zi5 w j (zau w.f d.c)∧b=true)∧(zcz w d j=false→W=w∧b=false)):Spec Tryz.prog 126 [zbk w,zkc d] [] (.tup [zbk W,B b]) []:=by
 have p1:=hw.places
 have p2:=hw.nb
 have p3:=hw.sl
 have p4:=hw.ml
 have p5:=hw.nt
 have hz:ze4 (zgh d.who) w.troops=(j:Int):=by unfold ze4;rw[hf]
 have hj:=zf9 hf
 have ok:=hw.trp j hj
 have hx:=ok.x;have hy:=ok.y
 have hfl:=zba hw.f
 have hld:=ok.load
 refine spB Tryz.func126 292 [.cell 4 28,.tmp 5] Tryz.results126 ?_
 try refine xz3 hz (gd hj) zae ?_
 refine caM [] (zbf w.stocks (by omega)) ?_
 try refine xz3 hz (gd hj) zae ?_
 refine caM [] (zbf w.mines (by omega)) ?_
 try refine xz3 hz (gd hj) zae ?_
 refine caM [] (zcx w.troops (by omega)) ?_
 try refine xz3 hz (gd hj) zae ?_
 (try(refine⟨by kernel_rfl,?_⟩))
 try refine xz3 hz (gd hj) zae ?_
 refine zbv (zhx _ [] [.fel 5 [zqi d] 0 0] w.troops (zgh d.who) (by omega) (fun t _=>zl4 t d) (fun _=>rfl) (fun _=>rfl)) (WkL.refl _) rfl ?_
 try refine xz3 hz (gd hj) zae ?_
 refine cI (fun h1 => ?_) fun h1 => ?_
 ·try refine xz3 hz (gd hj) zae ?_
  refine gcP (fun hcc=>zyw w.f d.c hw.f) ?_
  try refine xz3 hz (gd hj) zae ?_
  refine gcP (fun hcc=>z8o (w.troops.getD j default).c d.c (by omega)) ?_
  try refine xz3 hz (gd hj) zae ?_
  (try(refine⟨by kernel_rfl,?_⟩))
  try refine xz3 hz (gd hj) zae ?_
  refine cI (fun h2 => ?_) fun h2 => ?_
  ·have e:zcz w d j=false:=by
    unfold zcz
    simp only[Bool.and_eq_false_iff,decide_eq_false_iff_not]
    rcases h2 with ((h2|h2)|h2)|h2
    ·exact .inl (.inl (.inl (.inl (by omega))))
    ·exact .inl (.inl (.inl (.inr (by omega))))
    ·exact .inl (.inr h2)
    ·exact .inl (.inl (.inr h2))
   obtain⟨rfl,rfl⟩:=hW.2 e
   try refine xz3 hz (gd hj) zae ?_
   exact xrz rfl
  ·have hin:inF w.f d.c=true:=h2.1.2
   obtain⟨m1,m2,m3,m4⟩:=z2m hw hin
   obtain⟨m,hm⟩:∃m,m=zau w.f d.c:=⟨_,rfl⟩
   rw[←hm]at m1 m2
   have ew1:IntKind.i64.wrap (IntKind.i64.wrap (d.c.y*w.f.w)+d.c.x)=(m:Int):=by rw[zaq (d.c.y*w.f.w) (by omega) (by omega),zaq _ (by omega) (by omega)];exact m2
   have hmb:=(hw.mine m m1).1
   try refine xz6 hz (gd hj) zae ew1 (gd m1) zak ?_
   refine cI (fun h3 => ?_) fun h3 => ?_
   ·have e:zcz w d j=false:=by
     unfold zcz
     simp only[Bool.and_eq_false_iff,decide_eq_false_iff_not]
     exact .inr (by rw[←hm];omega)
    obtain⟨rfl,rfl⟩:=hW.2 e
    try refine xz6 hz (gd hj) zae ew1 (gd m1) zak ?_
    exact xrz rfl
   ·have e:zcz w d j=true:=by
     unfold zcz
     simp only[Bool.and_eq_true,decide_eq_true_eq]
     exact⟨⟨⟨⟨by omega,by omega⟩,h2.2⟩,hin⟩,by rw[←hm];omega⟩
    obtain⟨rfl,rfl⟩:=hW.1 e
    rw[←hm]
    try refine xz6 hz (gd hj) zae ew1 (gd m1) zak ?_
    simp(etaStruct := .none)only[push_cast,zab,seval,zi5,zbk,za1,List.map_set,zac,zaw]
    exact zbe rfl (by repeat' (first|exact trivial|exact rfl|refine⟨?_,?_⟩)) (Wk.refl _)
 ·exact absurd h h1
theorem z09 (w:Wld) (d:Ded) (j:Nat) (hw:Right w) (h:d.kind=2) (hf:w.troops.findIdx? (zgh d.who)=some j) (b:Bool) (W:Wld) (hW:(zh2 w j=true→W=zef w j∧b=decide (0<ze0 w j))∧(zh2 w j=false→W=w∧b=false)):Spec Tryz.prog 126 [zbk w,zkc d] [] (.tup [zbk W,B b]) []:=by
 have p1:=hw.places
 have p2:=hw.nb
 have p3:=hw.sl
 have p4:=hw.ml
 have p5:=hw.nt
 have hz:ze4 (zgh d.who) w.troops=(j:Int):=by unfold ze4;rw[hf]
 have hj:=zf9 hf
 have ok:=hw.trp j hj
 obtain⟨o,eo,ho,hs⟩:=zn2 hw hj
 have hn:=zqh hw hj
 have hb:=hw.base o ho
 have hbx:=inF_iff.1 (ground_iff.1 hb.1).1
 have hfl:=zba hw.f
 have hld:=ok.load
 have eo2:(w.troops.getD j default).owner.toNat=o:=by omega
 have edN:ze0 w j=min (w.troops.getD j default).load (1000000-w.stocks.getD o default):=by unfold ze0;rw[eo2]
 rw[eo2]at hn
 obtain⟨t,ht⟩:∃t,t=w.troops.getD j default:=⟨_,rfl⟩
 rw[←ht]at ok eo hn hld eo2 edN
 obtain⟨s,hsv⟩:∃s,s=w.stocks.getD o default:=⟨_,rfl⟩
 have setg:∀x:List PV,((w.troops.map zaw).set j x).getD j []=x:=fun x=>by rw[zp9 _ _ _ (by simpa using hj)];simp
 have setg2:∀x:List PV,((w.stocks.map zac).set o x).getD o []=x:=fun x=>by rw[zp9 _ _ _ (by simpa using hs)];simp
 have sets:∀x y:List PV,((w.troops.map zaw).set j x).set j y=(w.troops.map zaw).set j y:=fun x y=>List.set_set _
 have sets2:∀x y:List PV,((w.stocks.map zac).set o x).set o y=(w.stocks.map zac).set o y:=fun x y=>List.set_set _
 have hset:w.troops.set j (za1 t t.load)=w.troops:=by
  have:za1 t t.load=w.troops.getD j default:=by rw[←ht];rfl
  rw[this,zky _ _ hj]
 have hset2:w.stocks.set o s=w.stocks:=by rw[hsv,zky _ _ hs]
 refine spB Tryz.func126 292 [.cell 4 28,.tmp 5] Tryz.results126 ?_
 iterate 2(try simp(etaStruct := .none)only[push_cast,zab,seval,hz,eo,List.map_set,za1,setg,setg2,sets,sets2,zaa _ _ _ hj,←ht,zaw,zaa _ _ _ ho,zaz,zaa _ _ _ hs,←hsv,zac];try refine xsu ?_)
 refine caM [] (zbf w.stocks (by omega)) ?_
 iterate 2(try simp(etaStruct := .none)only[push_cast,zab,seval,hz,eo,List.map_set,za1,setg,setg2,sets,sets2,zaa _ _ _ hj,←ht,zaw,zaa _ _ _ ho,zaz,zaa _ _ _ hs,←hsv,zac];try refine xsu ?_)
 refine caM [] (zbf w.mines (by omega)) ?_
 iterate 2(try simp(etaStruct := .none)only[push_cast,zab,seval,hz,eo,List.map_set,za1,setg,setg2,sets,sets2,zaa _ _ _ hj,←ht,zaw,zaa _ _ _ ho,zaz,zaa _ _ _ hs,←hsv,zac];try refine xsu ?_)
 refine caM [] (zcx w.troops (by omega)) ?_
 iterate 2(try simp(etaStruct := .none)only[push_cast,zab,seval,hz,eo,List.map_set,za1,setg,setg2,sets,sets2,zaa _ _ _ hj,←ht,zaw,zaa _ _ _ ho,zaz,zaa _ _ _ hs,←hsv,zac];try refine xsu ?_)
 (try(refine⟨by kernel_rfl,?_⟩))
 iterate 2(try simp(etaStruct := .none)only[push_cast,zab,seval,hz,eo,List.map_set,za1,setg,setg2,sets,sets2,zaa _ _ _ hj,←ht,zaw,zaa _ _ _ ho,zaz,zaa _ _ _ hs,←hsv,zac];try refine xsu ?_)
 refine zbv (zhx _ [] [.fel 5 [zqi d] 0 0] w.troops (zgh d.who) (by omega) (fun t _=>zl4 t d) (fun _=>rfl) (fun _=>rfl)) (WkL.refl _) rfl ?_
 iterate 2(try simp(etaStruct := .none)only[push_cast,zab,seval,hz,eo,List.map_set,za1,setg,setg2,sets,sets2,zaa _ _ _ hj,←ht,zaw,zaa _ _ _ ho,zaz,zaa _ _ _ hs,←hsv,zac];try refine xsu ?_)
 refine cI (fun h1 => ?_) fun h1 => ?_
 ·exfalso;omega
 ·iterate 2(try simp(etaStruct := .none)only[push_cast,zab,seval,hz,eo,List.map_set,za1,setg,setg2,sets,sets2,zaa _ _ _ hj,←ht,zaw,zaa _ _ _ ho,zaz,zaa _ _ _ hs,←hsv,zac];try refine xsu ?_)
  refine cI (fun h2 => ?_) fun h2 => ?_
  ·iterate 2(try simp(etaStruct := .none)only[push_cast,zab,seval,hz,eo,List.map_set,za1,setg,setg2,sets,sets2,zaa _ _ _ hj,←ht,zaw,zaa _ _ _ ho,zaz,zaa _ _ _ hs,←hsv,zac];try refine xsu ?_)
   refine gcP (fun hcc=>z8o (w.bases.getD o default) t.c (by omega)) ?_
   iterate 2(try simp(etaStruct := .none)only[push_cast,zab,seval,hz,eo,List.map_set,za1,setg,setg2,sets,sets2,zaa _ _ _ hj,←ht,zaw,zaa _ _ _ ho,zaz,zaa _ _ _ hs,←hsv,zac];try refine xsu ?_)
   (try(refine⟨by kernel_rfl,?_⟩))
   iterate 2(try simp(etaStruct := .none)only[push_cast,zab,seval,hz,eo,List.map_set,za1,setg,setg2,sets,sets2,zaa _ _ _ hj,←ht,zaw,zaa _ _ _ ho,zaz,zaa _ _ _ hs,←hsv,zac];try refine xsu ?_)
   refine cI (fun h3 => ?_) fun h3 => ?_
   ·obtain⟨rfl,rfl⟩:=hW.2 (by unfold zh2;rw[←ht,eo2];exact h3.resolve_left (by omega))
    iterate 2(try simp(etaStruct := .none)only[push_cast,zab,seval,hz,eo,List.map_set,za1,setg,setg2,sets,sets2,zaa _ _ _ hj,←ht,zaw,zaa _ _ _ ho,zaz,zaa _ _ _ hs,←hsv,zac];try refine xsu ?_)
    exact xrz rfl
   ·obtain⟨rfl,rfl⟩:=hW.1 (by unfold zh2;rw[←ht,eo2];exact h3.2)
    iterate 2(try simp(etaStruct := .none)only[push_cast,zab,seval,hz,eo,List.map_set,za1,setg,setg2,sets,sets2,zaa _ _ _ hj,←ht,zaw,zaa _ _ _ ho,zaz,zaa _ _ _ hs,←hsv,zac];try refine xsu ?_)
    refine zas (fun k:Nat=>⟨[(8,I .i64 k),(6,I .i64 j),(4,.ptr 1 0 0),(2,.ptr 0 0 0)],[(0,.blk 28 (z4z w 2 3 4)),(1,.blk 28 [I .i64 0,I .i64 0,.c (.v (.slice none 0 0)),.c (.v (.slice none 0 0)),.c (.v (.slice none 0 0)),.c (.v (.slice none 0 0)),.c (.v (.slice none 0 0)),I .i64 0,I .i64 0]),(2,.row 3 1 ((w.stocks.set o (s+k)).map zac)),(3,miR w),(4,.row 92 7 ((w.troops.set j (za1 t (t.load-k))).map zaw))],5⟩) (fun k:Nat=>(k:Int)≤ze0 w j) (fun k:Nat=>(ze0 w j).toNat-k) (0) (by have:=hn.1;simpa using this) (To.mk [0,2,11,23,35] rfl rfl (by decide) ?_ ?_) ?_
    ·simp(etaStruct := .none)only[push_cast,zab,seval,Int.natCast_zero,Int.add_zero,Int.sub_zero,hset,hset2]
    ·simp(etaStruct := .none)only[push_cast,zab,seval]
    rintro k hk
    have kt:t.kind=1∨t.kind=2:=ok.kind
    iterate 2(try simp(etaStruct := .none)only[push_cast,zab,seval,hz,eo,List.map_set,za1,setg,setg2,sets,sets2,zaa _ _ _ hj,←ht,zaw,zaa _ _ _ ho,zaz,zaa _ _ _ hs,←hsv,zac];try refine xsu ?_)
    (try(refine⟨by kernel_rfl,?_⟩))
    iterate 2(try simp(etaStruct := .none)only[push_cast,zab,seval,hz,eo,List.map_set,za1,setg,setg2,sets,sets2,zaa _ _ _ hj,←ht,zaw,zaa _ _ _ ho,zaz,zaa _ _ _ hs,←hsv,zac];try refine xsu ?_)
    refine cI (fun h4 => ?_) fun h4 => ?_
    ·have hk2:(k:Int)+1≤ze0 w j:=by rw[edN];omega
     iterate 2(try simp(etaStruct := .none)only[push_cast,zab,seval,hz,eo,List.map_set,za1,setg,setg2,sets,sets2,zaa _ _ _ hj,←ht,zaw,zaa _ _ _ ho,zaz,zaa _ _ _ hs,←hsv,zac];try refine xsu ?_)
     (try(refine⟨by kernel_rfl,?_⟩))
     iterate 2(try simp(etaStruct := .none)only[push_cast,zab,seval,hz,eo,List.map_set,za1,setg,setg2,sets,sets2,zaa _ _ _ hj,←ht,zaw,zaa _ _ _ ho,zaz,zaa _ _ _ hs,←hsv,zac];try refine xsu ?_)
     refine⟨k+1,by omega,by omega,To.mk [0,1,2,3,4] rfl rfl (by decide) ?_ ?_⟩
     ·(iterate 2((try simp(etaStruct := .none)only[push_cast,zab,seval,List.map_set,za1,eo,setg,setg2,sets,sets2,zaw,zac,Int.sub_sub,Int.add_assoc]);(try(refine xsu ?_;try exact xtI))))
     ·(iterate 2((try simp(etaStruct := .none)only[push_cast,zab,seval,hz,eo,List.map_set,za1,setg,setg2,sets,sets2,zaa _ _ _ hj,←ht,zaw,zaa _ _ _ ho,zaz,zaa _ _ _ hs,←hsv,zac]);(try(refine xsu ?_;try exact xtI))))
    ·have hk3:ze0 w j=(k:Int):=by rw[edN]at hk ⊢;omega
     iterate 2(try simp(etaStruct := .none)only[push_cast,zab,seval,hz,eo,List.map_set,za1,setg,setg2,sets,sets2,zaa _ _ _ hj,←ht,zaw,zaa _ _ _ ho,zaz,zaa _ _ _ hs,←hsv,zac];try refine xsu ?_)
     simp(etaStruct := .none)only[push_cast,zab,seval,zef,zbk,←ht,eo2,←hsv,hk3,za1,List.map_set,zac,zaw,eo]
     exact zbe rfl (by repeat' (first|exact trivial|exact rfl|refine⟨?_,?_⟩)) (Wk.refl _)
  ·exact absurd h h2
end Go.Proofs.YtbapdgmcndgieaaGreat
