/- Lemmas for the proof of topMist.proved. -/
import Derived.Test.YtmjbgbmegbkmhaaGreatTMi6
namespace Go.Proofs.YtmjbgbmegbkmhaaGreat
set_option linter.all false
open Go.RowKit
set_option maxRecDepth 100000
set_option maxHeartbeats 2000000
def PP (f:Fld) (far:List Int) (c n:Cel):Prop:=(zct f n).2=true∧0≤far.getD (zal f n) default∧far.getD (zal f n) default+kV (zah f c)=far.getD (zal f c) default
instance (f:Fld) (far:List Int) (c n:Cel):Decidable (PP f far c n):=by unfold PP;infer_instance
section
variable {f : Fld} {a b c : Cel} {R : List Int} {W H : Nat}
theorem z3y (s:Srch f a b R W H) (hf:zbk f=0) (hpa:zah f a≠1) (hc:inF f c=true) (h0:0≤R.getD (zal f c) default):zct f c=(kV (zah f c),true):=by
 have epl:zah f c=f.p.getD (zal f c) default:=rfl
 have:zah f c≠1:=by
  rw[epl]
  rcases s.r.why _ (zbi s.w s.h s.w0 hf hc).2 h0 with ⟨w1,_⟩|⟨_,_,_,hr,_⟩
  ·rw[List.mem_singleton]at w1;rw[w1];exact hpa
  ·exact hr
 unfold zct
 rw[if_pos hc,if_neg this]
theorem z79 (s:Srch f a b R W H) (hf:zbk f=0) (ha:inF f a=true) (hb:inF f b=true) (hpa:zah f a≠1) (hc:inF f c=true) (h0:0≤R.getD (zal f c) default) (hb0:0≤R.getD (zal f b) default) (hcb:R.getD (zal f c) default+zbf b c≤R.getD (zal f b) default) (hfc:(zcp f a b).1.getD (zal f c) default=R.getD (zal f c) default) {n:Cel} (hn:n∈zaf c) :
 PP f (zcp f a b).1 c n↔(inF f n=true∧zvc R f c n=true) :=
 z94 s.w s.h s.w0 hf s.l s.r ha hpa hc h0 s.ass hcb ((s.end hf ha hb).2 hb0).2 hfc hn
theorem z44 (s:Srch f a b R W H) (hf:zbk f=0) (ha:inF f a=true) (hb:inF f b=true) (hpa:zah f a≠1) (hc:inF f c=true) (h0:0≤R.getD (zal f c) default) (hb0:0≤R.getD (zal f b) default) (hcb:R.getD (zal f c) default+zbf b c≤R.getD (zal f b) default) (hfc:(zcp f a b).1.getD (zal f c) default=R.getD (zal f c) default)
 {k:Nat} (hk:k<4) (hn:∀i,i<k→¬PP f (zcp f a b).1 c ((zaf c).getD i default)) (hp:PP f (zcp f a b).1 c ((zaf c).getD k default)):(zaf c).getD k default=zmh R f c:=by
 have h4:(zaf c).length=4:=rfl
 have e1:(zaf c).find? (fun n=>decide (PP f (zcp f a b).1 c n))=some ((zaf c).getD k default):=by
  rw[List.find?_eq_some_iff_getElem]
  refine⟨by simpa using hp,k,by omega,(zac _ _ (by omega)).symm,fun j hj => ?_⟩
  have:=hn j hj
  rw[zac _ _ (by omega)]at this
  simpa using this
 have e2:=zym (f:=f) (R:=R) (c:=c) (p:=fun n=>decide (PP f (zcp f a b).1 c n)) fun n hn=>by
  have:=z79 s hf ha hb hpa hc h0 hb0 hcb hfc hn
  rw[Bool.eq_iff_iff,decide_eq_true_eq,Bool.and_eq_true];exact this
 rw[e1]at e2
 unfold zmh
 rw[←e2];rfl
theorem yh9 (s:Srch f a b R W H) (hf:zbk f=0) (ha:inF f a=true) (hb:inF f b=true) (hpa:zah f a≠1) (hc:inF f c=true) (h0:0≤R.getD (zal f c) default) (hb0:0≤R.getD (zal f b) default) (hcb:R.getD (zal f c) default+zbf b c≤R.getD (zal f b) default) (hfc:(zcp f a b).1.getD (zal f c) default=R.getD (zal f c) default)
 (hca:c≠a) (hn:∀i,i<4→¬PP f (zcp f a b).1 c ((zaf c).getD i default)):False:=by
 obtain⟨_,hm,hin,_,h1,h2⟩:=z03 s.w s.h s.w0 hf s.l s.r ha hc hca h0
 have hms:=(List.mem_filter.1 hm).1
 obtain⟨i,hi,e⟩:=mem_getD.1 hms
 refine hn i hi ?_
 rw[←e]at hms
 rw[z79 s hf ha hb hpa hc h0 hb0 hcb hfc hms,e]
 exact⟨hin,by unfold zvc;rw[Bool.and_eq_true,decide_eq_true_eq,decide_eq_true_eq];exact⟨h1,h2⟩⟩
theorem z5i (s:Srch f a b R W H) (hf:zbk f=0) (ha:inF f a=true) (hb:inF f b=true) (hc:inF f c=true) (h0:0≤R.getD (zal f c) default) (hb0:0≤R.getD (zal f b) default) (hcb:R.getD (zal f c) default+zbf b c≤R.getD (zal f b) default) (hca:c≠a) :
 inF f (zmh R f c)=true∧0≤R.getD (zal f (zmh R f c)) default∧R.getD (zal f (zmh R f c)) default+2≤R.getD (zal f c) default∧R.getD (zal f (zmh R f c)) default+zbf b (zmh R f c)≤R.getD (zal f b) default∧(zcp f a b).1.getD (zal f (zmh R f c)) default=R.getD (zal f (zmh R f c)) default:=by
 obtain⟨_,hm,hin,hadj,h1,h2⟩:=z03 s.w s.h s.w0 hf s.l s.r ha hc hca h0
 have hkv:=zy4 (zah f c)
 have hcons:=zor s.w s.h s.w0 b
 rw[←s.l]at hcons
 obtain⟨en,hnL⟩:=zbi s.w s.h s.w0 hf hin
 obtain⟨ec,hcL⟩:=zbi s.w s.h s.w0 hf hc
 have hle:=hcons _ _ hnL hcL hadj.symm
 simp only at hle
 rw[←en,←ec]at hle
 refine⟨hin,h1,by omega,by omega,?_⟩
 exact s.ass.known hcons (zbi s.w s.h s.w0 hf ha).2 s.r hnL h1 (fun x hx=>by have:=((s.end hf ha hb).2 hb0).2 x hx;rw[←en];omega)
theorem z73 (s:Srch f a b R W H) (hl:f.p.length≤1600) (p:Nat) (hp:p<f.p.length) : -1≤(zcp f a b).1.getD p default∧(zcp f a b).1.getD p default≤4800:=by
 have h1:=s.ass.low p hp
 have h2:=s.ass.top p hp
 have h3:=zg7 zew 1 zhc (zcp f a b).1
 rw[s.ass.len]at h3
 omega
end
theorem cel_ne {c a:Cel} : ¬(c.x=a.x∧c.y=a.y)↔c≠a:=by
 obtain⟨x,y⟩:=c;obtain⟨u,v⟩:=a;simp
theorem z0m (f:Fld) (a b:Cel) (hl:f.p.length≤9223372036854775807) (R:List Int) (hR:zas f [a] R):Spec Tryz.prog 134 [zy6 f,zgw a,zgw b] [] (.tup [.c (.sl 2 ((if zl9 R f a b=0 then ycp R f a b else []).map za2)),I .i64 (ygc R f a b),I .i64 (zl9 R f a b)]) []:=by
 rcases zw4 R f a b with ⟨hE,hbad⟩|⟨hf,ha,hb,hpa,hpb,⟨hE,h0⟩|⟨hE,h0⟩⟩
 ·have e:ygc R f a b=0:=if_neg hE
  rw[if_neg hE]
  refine spB Tryz.func134 107 [.tmp 6,.tmp 7,.tmp 8] Tryz.results134 ?_
  try refine xst ?_
  refine caP (zsi f a b hl hbad R) ?_
  try refine xst ?_
  refine cI (fun h1 => ?_) fun h1 => ?_
  ·skip
   try refine xst ?_
   (first|(refine zar rfl (Wk.of ?_);(try simp(etaStruct := .none)only[push_cast,zab,seval]);first|done|(simp[e, *];done)|(simp_all[e];done))|(refine zar rfl ?_;(try simp(etaStruct := .none)only[push_cast,zab,seval]);(try simp[e, *]);(try exact wkc)))
  ·exact absurd h1 hE
 ·have e:ygc R f a b=0:=if_neg (by rw[hE];decide)
  rw[e,hE,if_neg (by decide)]
  refine spB Tryz.func134 107 [.tmp 6,.tmp 7,.tmp 8] Tryz.results134 ?_
  try refine xst ?_
  refine caP (zpz f a b hl hf ha hb hpa hpb hR h0) ?_
  try refine xst ?_
  refine cI (fun h1 => ?_) fun h1 => ?_
  ·try refine xst ?_
   exact xrz rfl
  ·exact absurd h1 (by decide)
 ·have e:ygc R f a b=R.getD (zal f b) default:=if_pos hE
  obtain⟨W,H,s⟩:=yge (b:=b) hf ha hpa hR
  have hend:=(s.end hf ha hb).2 h0
  have hbF:zal f b<(zcp f a b).1.length:=by rw[s.ass.len];exact(zbi s.w s.h s.w0 hf hb).2
  have hpx:=za5 hf ha
  rw[e,hE,if_pos rfl]
  refine spB Tryz.func134 107 [.tmp 6,.tmp 7,.tmp 8] Tryz.results134 ?_
  (iterate 2((try simp(etaStruct := .none)only[push_cast,seval]);(try(refine xsu ?_;try exact xtI))))
  refine caM [] (zsh f a b hl hf ha hb hpa hpb hR h0) ?_
  (iterate 2((try simp(etaStruct := .none)only[push_cast,seval]);(try(refine xsu ?_;try exact xtI))))
  refine cI (fun h1 => ?_) fun h1 => ?_
  ·exact absurd h1 (by decide)
  ·(iterate 2((try simp(etaStruct := .none)only[push_cast,seval]);(try(refine xsu ?_;try exact xtI))))
   refine zaw (fun x:Nat × Cel × List Cel=>⟨[(12,.ptr 5 0 0),(11,.own 6),(9,.ptr 0 0 0),(5,.ptr 4 0 0),(4,.ptr 3 0 0)],[(0,srB f b (.own 1) (.own 2)),(1,.row 3 1 ((zcp f a b).1.map zad)),(2,.row 327 4 ((zcp f a b).2.map zbv)),(3,.blk 46 [I .i64 a.x,I .i64 a.y]),(4,.blk 46 [I .i64 b.x,I .i64 b.y]),(5,.blk 46 [I .i64 x.2.1.x,I .i64 x.2.1.y]),(6,.row 46 2 (x.2.2.map za2))],7⟩) (fun x:Nat × Cel × List Cel=>inF f x.2.1=true∧0≤R.getD (zal f x.2.1) default∧R.getD (zal f x.2.1) default≤x.1∧(zcp f a b).1.getD (zal f x.2.1) default=R.getD (zal f x.2.1) default∧R.getD (zal f x.2.1) default+zbf b x.2.1≤R.getD (zal f b) default∧x.2.2++zza R f a x.1 x.2.1=b::zza R f a (R.getD (zal f b) default).toNat b∧x.2.2.length+x.1≤4801) (fun x:Nat × Cel × List Cel=>x.1) (((R.getD (zal f b) default).toNat,b,[b])) (⟨hb,h0,by simp only;omega,hend.1,by simp only[zbf];omega,rfl,by have:=(z73 s hpx.2.2.2.2 _ (show zal f b<f.p.length by rw[←s.ass.len];exact hbF)).2;rw[hend.1]at this;simp only[List.length_singleton];omega⟩) (To.mk [3,4,5,1,2,7,6] rfl rfl (by decide) ?_ ?_) ?_
   ·(iterate 2((try simp(etaStruct := .none)only[push_cast,zab,seval,srB,za2]);(try(refine xsu ?_;try exact xtI))))
   ·simp(etaStruct := .none)only[push_cast,zab,seval]
   rintro⟨N,c,out⟩ ⟨hc,hc0,hcN,hfc,hcb,hway,hlen⟩
   simp only at hc hc0 hcN hfc hcb hway hlen
   (iterate 2((try simp(etaStruct := .none)only[push_cast,seval]);(try(refine xsu ?_;try exact xtI))))
   refine cI (fun h2 => ?_) fun h2 => ?_
   ·have hca:c≠a:=cel_ne.1 (fun h=>by rcases h2 with h2|h2;exact h2 h.1;exact h2 h.2)
    have hwc:=z3y s hf hpa hc hc0
    have hci:=inF_iff.1 hc
    have hfo:=zbc hf
    have hkv:=zy4 (zah f c)
    have hcF:zal f c<(zcp f a b).1.length:=by rw[s.ass.len];exact(zbi s.w s.h s.w0 hf hc).2
    obtain⟨n1,n2,n3,n4,n5⟩:=z5i s hf ha hb hc hc0 h0 hcb hca
    obtain⟨M,rfl⟩:∃M,N=M+1:=⟨N-1,by omega⟩
    (iterate 2((try simp(etaStruct := .none)only[push_cast,seval]);(try(refine xsu ?_;try exact xtI))))
    refine zcl (zss f b (zcp f a b).1 (zcp f a b).2 c hf) (WkL.refl _) rfl ?_
    rw[hwc]
    (iterate 2((try simp(etaStruct := .none)only[push_cast,seval]);(try(refine xsu ?_;try exact xtI))))
    refine caP (zu1 c (by omega) (by omega)) ?_
    (iterate 2((try simp(etaStruct := .none)only[push_cast,seval]);(try(refine xsu ?_;try exact xtI))))
    refine zaw (fun k:Nat=>⟨[(43,I .i64 k),(42,.agg [I .i64 c.x,I .i64 (c.y-1),I .i64 (c.x-1),I .i64 c.y,I .i64 (c.x+1),I .i64 c.y,I .i64 c.x,I .i64 (c.y+1)]),(13,I .i64 (kV (zah f c))),(12,.ptr 5 0 0),(11,.own 6),(9,.ptr 0 0 0),(5,.ptr 4 0 0),(4,.ptr 3 0 0)],[(0,srB f b (.own 1) (.own 2)),(1,.row 3 1 ((zcp f a b).1.map zad)),(2,.row 327 4 ((zcp f a b).2.map zbv)),(3,.blk 46 [I .i64 a.x,I .i64 a.y]),(4,.blk 46 [I .i64 b.x,I .i64 b.y]),(5,.blk 46 [I .i64 c.x,I .i64 c.y]),(6,.row 46 2 (out.map za2))],7⟩) (fun k:Nat=>k≤4∧∀i,i<k→¬PP f (zcp f a b).1 c ((zaf c).getD i default)) (fun k:Nat=>4-k) (0) (⟨Nat.zero_le _,fun i h=>absurd h (Nat.not_lt_zero _)⟩) (To.mk [0,1,2,3,4,5,6] rfl rfl (by decide) ?_ ?_) ?_
    ·simp(etaStruct := .none)only[push_cast,zab,seval]
    ·simp(etaStruct := .none)only[push_cast,zab,seval]
    rintro k ⟨hk,hno⟩
    (iterate 2((try simp(etaStruct := .none)only[push_cast,seval]);(try(refine xsu ?_;try exact xtI))))
    refine cI (fun h3 => ?_) fun h3 => ?_
    ·have hlt:k<4:=by omega
     have hsc:=zku c k hlt
     have hgG:ybh f ((zaf c).getD k default)<(zcp f a b).1.length:=by rw[s.ass.len];exact z13 hf _
     have hbG:=z73 s hpx.2.2.2.2 (ybh f ((zaf c).getD k default)) (by rw[←s.ass.len];exact hgG)
     (iterate 2((try simp(etaStruct := .none)only[push_cast,seval,hsc,zaa _ _ _ hgG,zaa _ _ _ hcF,zad]);(try(refine xsu ?_;try exact xtI))))
     refine zcl (zss f b (zcp f a b).1 (zcp f a b).2 ((zaf c).getD k default) hf) (WkL.refl _) rfl ?_
     (iterate 2((try simp(etaStruct := .none)only[push_cast,seval,hsc,zaa _ _ _ hgG,zaa _ _ _ hcF,zad]);(try(refine xsu ?_;try exact xtI))))
     refine zbm [some 52,some 53,some 54,some 55,some 56,some 57,some 58,some 59,some 60,some 61,some 62,some 63,some 64,some 65,some 66,some 67,some 68,some 69,some 70,some 71,some 72,some 73,some 74,some 75,some 76,some 77,some 78,some 79,some 80,some 81,some 82,some 83,some 84,some 85,some 86,some 87] rfl ?_
     intro Oq lq Rq hlq hdq hRq
     subst hlq
     iterate 8(refine za1 fun rq hrq => ?_;(iterate 2((try simp(etaStruct := .none)only[push_cast,seval,hdq,id,hsc,zaa _ _ _ hgG,zaa _ _ _ hcF,zad]);(try(refine xsu ?_;try exact xtI))));subst hrq)
     refine za1 fun rq hrq => ?_
     (iterate 2((try simp(etaStruct := .none)only[push_cast,seval,hdq,id,hsc,zaa _ _ _ hgG,zaa _ _ _ hcF,zad]);(try(refine xsu ?_;try exact xtI))))
     refine zly (fun hcc=>zla f b (zcp f a b).1 (zcp f a b).2 ((zaf c).getD k default) hf hcc) (WkL.refl _) rfl (by intro hc;(try simp(etaStruct := .none)only[push_cast,zab,seval]);(try simp_all)) ?_
     (iterate 2((try simp(etaStruct := .none)only[push_cast,seval,hdq,id,hsc,zaa _ _ _ hgG,zaa _ _ _ hcF,zad]);(try(refine xsu ?_;try exact xtI))))
     subst hrq
     iterate 11(refine za1 fun rq hrq => ?_;(iterate 2((try simp(etaStruct := .none)only[push_cast,seval,hdq,id,hsc,zaa _ _ _ hgG,zaa _ _ _ hcF,zad]);(try(refine xsu ?_;try exact xtI))));subst hrq)
     refine za1 fun rq hrq => ?_
     (iterate 2((try simp(etaStruct := .none)only[push_cast,seval,hdq,id,hsc,zaa _ _ _ hgG,zaa _ _ _ hcF,zad]);(try(refine xsu ?_;try exact xtI))))
     refine zly (fun hcc=>zla f b (zcp f a b).1 (zcp f a b).2 ((zaf c).getD k default) hf (by simp only[Bool.and_eq_true]at hcc;exact hcc.1)) (WkL.refl _) rfl (by intro hc;(try simp(etaStruct := .none)only[push_cast,zab,seval]);(try simp_all)) ?_
     (iterate 2((try simp(etaStruct := .none)only[push_cast,seval,hdq,id,hsc,zaa _ _ _ hgG,zaa _ _ _ hcF,zad]);(try(refine xsu ?_;try exact xtI))))
     subst hrq
     iterate 10(refine za1 fun rq hrq => ?_;(iterate 2((try simp(etaStruct := .none)only[push_cast,seval,hdq,id,hsc,zaa _ _ _ hgG,zaa _ _ _ hcF,zad]);(try(refine xsu ?_;try exact xtI))));subst hrq)
     refine za1 fun rq hrq => ?_
     (iterate 2((try simp(etaStruct := .none)only[push_cast,seval,hdq,id,hsc,zaa _ _ _ hgG,zaa _ _ _ hcF,zad]);(try(refine xsu ?_;try exact xtI))))
     refine zly (fun hcc=>zef f b (zcp f a b).1 (zcp f a b).2 c hf hc) (WkL.refl _) rfl (by intro hc;(try simp(etaStruct := .none)only[push_cast,zab,seval]);(try simp_all)) ?_
     (iterate 2((try simp(etaStruct := .none)only[push_cast,seval,hdq,id,hsc,zaa _ _ _ hgG,zaa _ _ _ hcF,zad]);(try(refine xsu ?_;try exact xtI))))
     subst hrq
     iterate 4(refine za1 fun rq hrq => ?_;(iterate 2((try simp(etaStruct := .none)only[push_cast,seval,hdq,id,hsc,zaa _ _ _ hgG,zaa _ _ _ hcF,zad]);(try(refine xsu ?_;try exact xtI))));subst hrq)
     refine zml ?_
     subst hRq
     clear hdq Oq
     refine zmk (by kernel_rfl) ?_
     (iterate 2((try simp(etaStruct := .none)only[push_cast,seval,hsc,zaa _ _ _ hgG,zaa _ _ _ hcF,zad]);(try(refine xsu ?_;try exact xtI))))
     refine cI (fun h4 => ?_) fun h4 => ?_
     ·have hin2:inF f ((zaf c).getD k default)=true:=by
       cases hi:inF f ((zaf c).getD k default)with
       | true=>rfl
       | false=>have:=h4.1.1;unfold zct at this;rw[hi]at this;simp at this
      have hPP:PP f (zcp f a b).1 c ((zaf c).getD k default):=⟨h4.1.1,by rw[←zi6 hin2];exact h4.1.2,by rw[←zi6 hin2];exact h4.2⟩
      have hnk:=z44 s hf ha hb hpa hc hc0 h0 hcb hfc hlt hno hPP
      rw[zza,if_neg hca]at hway
      (iterate 2((try simp(etaStruct := .none)only[push_cast,seval,hsc,zaa _ _ _ hgG,zaa _ _ _ hcF,zad,hnk]);(try(refine xsu ?_;try exact xtI))))
      refine⟨(M,zmh R f c,out ++ [zmh R f c]),⟨n1,n2,by simp only;omega,n5,n4,by simp only;rw[List.append_assoc];exact hway,by simp only[List.length_append,List.length_singleton];omega⟩,by simp only;omega,To.mk [0,1,2,3,4,154,153] rfl rfl (by decide) ?_ ?_⟩
      ·(iterate 2((try simp(etaStruct := .none)only[push_cast,zab,seval,List.map_append,za2]);(try(refine xsu ?_;try exact xtI))))
      ·(iterate 2((try simp(etaStruct := .none)only[push_cast,seval,hsc,zaa _ _ _ hgG,zaa _ _ _ hcF,zad,hnk]);(try(refine xsu ?_;try exact xtI))))
     ·have hno2:∀i,i<k+1→¬PP f (zcp f a b).1 c ((zaf c).getD i default):=fun i hi=>by
       rcases Nat.lt_or_ge i k with h|h
       ·exact hno i h
       ·obtain rfl:i=k:=by omega
        rintro⟨p1,p2,p3⟩
        have hin2:inF f ((zaf c).getD i default)=true:=by
         cases hi:inF f ((zaf c).getD i default)with
         | true=>rfl
         | false=>unfold zct at p1;rw[hi]at p1;simp at p1
        rw[←zi6 hin2]at p2 p3
        rcases h4 with (h4|h4)|h4
        ·rw[p1]at h4;exact absurd h4 (by decide)
        ·omega
        ·exact h4 p3
      (iterate 2((try simp(etaStruct := .none)only[push_cast,seval,hsc,zaa _ _ _ hgG,zaa _ _ _ hcF,zad]);(try(refine xsu ?_;try exact xtI))))
      refine⟨k+1,⟨by omega,hno2⟩,by omega,To.mk [0,1,2,3,4,5,6] rfl rfl (by decide) ?_ ?_⟩
      ·(iterate 2((try simp(etaStruct := .none)only[push_cast,seval,hsc,zaa _ _ _ hgG,zaa _ _ _ hcF,zad]);(try(refine xsu ?_;try exact xtI))))
      ·(iterate 2((try simp(etaStruct := .none) (maxSteps:=1000000)only[push_cast,zab,seval]);(try(refine xsu ?_;try exact xtI))))
    ·obtain rfl:k=4:=by omega
     exact(yh9 s hf ha hb hpa hc hc0 h0 hcb hfc hca hno).elim
   ·have hca:c=a:=Decidable.byContradiction fun h=>cel_ne.2 h h2
    have hout:out=b::zza R f a (R.getD (zal f b) default).toNat b:=by
     have e0:zza R f a N c = []:=by
      cases N with
      | zero=>rfl
      | succ N=>rw[zza,if_pos hca]
     rw[←hway,e0,List.append_nil]
    have hov:out.reverse=ycp R f a b:=by unfold ycp;rw[hout]
    (iterate 2((try simp(etaStruct := .none)only[push_cast,seval,zaa _ _ _ hbF,zad,hend.1,hov]);(try(refine xsu ?_;try exact xtI))))
    refine caM [6] (yb9 out (by omega)) ?_
    (iterate 2((try simp(etaStruct := .none)only[push_cast,seval,zaa _ _ _ hbF,zad,hend.1,hov]);(try(refine xsu ?_;try exact xtI))))
    refine zbm [some 97,some 98,some 99,some 100,some 101,some 102,some 103,some 104,some 105,some 106,some 6,some 7,some 8] rfl ?_
    intro Oq lq Rq hlq hdq hRq
    subst hlq
    iterate 7(refine za1 fun rq hrq => ?_;(iterate 2((try simp(etaStruct := .none)only[push_cast,seval,hdq,id,zaa _ _ _ hbF,zad,hend.1,hov]);(try(refine xsu ?_;try exact xtI))));subst hrq)
    refine za1 fun rq hrq => ?_
    (iterate 2((try simp(etaStruct := .none)only[push_cast,seval,hdq,id,zaa _ _ _ hbF,zad,hend.1,hov]);(try(refine xsu ?_;try exact xtI))))
    refine zcl (zef f b (zcp f a b).1 (zcp f a b).2 b hf hb) (WkL.refl _) rfl ?_
    (iterate 2((try simp(etaStruct := .none)only[push_cast,seval,hdq,id,zaa _ _ _ hbF,zad,hend.1,hov]);(try(refine xsu ?_;try exact xtI))))
    subst hrq
    iterate 5(refine za1 fun rq hrq => ?_;(iterate 2((try simp(etaStruct := .none)only[push_cast,seval,hdq,id,zaa _ _ _ hbF,zad,hend.1,hov]);(try(refine xsu ?_;try exact xtI))));subst hrq)
    refine zml ?_
    subst hRq
    clear hdq Oq
    refine zmk (by kernel_rfl) ?_
    (iterate 2((try simp(etaStruct := .none)only[push_cast,seval,zaa _ _ _ hbF,zad,hend.1,hov]);(try(refine xsu ?_;try exact xtI))))
    exact xrz rfl
theorem ybc {α : Type} [Inhabited α] {p : α → Bool} {l:List α} {x : α} (h:l.find? p=some x):∃i:Nat,zh9 p l=(i:Int)∧i<l.length∧l.getD i default=x:=by
 rw[List.find?_eq_some_iff_getElem]at h
 obtain⟨h1,i,hi,rfl,h2⟩:=h
 exact⟨i,zej p l i hi h1 (fun j hj hji=>by simpa using h2 j hji),hi,zac _ _ hi⟩
end Go.Proofs.YtmjbgbmegbkmhaaGreat
namespace Go.Proofs.YtmjbgbmegbkmhaaGreat
set_option linter.all false
open Go.RowKit
set_option maxRecDepth 100000
def zyz (f:Fld) (WR:Cel→List Int) (a b:Cel):List Cel:=if zl9 (WR a) f a b=0 then ycp (WR a) f a b else []
theorem yc2 (f:Fld):∃WR:Cel→List Int,∀a,zas f [a] (WR a):=⟨fun a=>Classical.choose (zwc f [a]),fun a=>Classical.choose_spec (zwc f [a])⟩
def zox (l:List Gop) (i:Int):Option Gop:=l.find? fun g=>decide (g.id=i)
def zsf (t:Trp) (c:Cel):Trp:={ t with c:=c }
def zps (f:Fld) (WR:Cel→List Int) (l:List Gop) (ts:List Trp) (t:Trp):Option Cel:=match zox l t.id with
 | none=>none
 | some g=>if (zyz f WR t.c g.to).length<2∨(ts.any fun o=>decide (o.c=(zyz f WR t.c g.to).getD 1 default))=true then none else some ((zyz f WR t.c g.to).getD 1 default)
def zeh (f:Fld) (WR:Cel→List Int) (l:List Gop) (s:List Trp × List Int) (i:Nat):List Trp × List Int:=match zps f WR l s.1 (s.1.getD i default)with
 | none=>s
 | some c=>(s.1.set i (zsf (s.1.getD i default) c),s.2 ++ [(s.1.getD i default).id])
def zdt (f:Fld) (WR:Cel→List Int) (l:List Gop) (ts:List Trp) (k:Nat):List Trp × List Int:=(List.range k).foldl (zeh f WR l) (ts,[])
theorem zlm (f:Fld) (WR:Cel→List Int) (l:List Gop) (ts:List Trp):zdt f WR l ts 0=(ts,[]):=rfl
theorem zff (f:Fld) (WR:Cel→List Int) (l:List Gop) (ts:List Trp) (k:Nat):zdt f WR l ts (k+1)=zeh f WR l (zdt f WR l ts k) k:=by
 unfold zdt;rw[List.range_succ,List.foldl_append];rfl
theorem zx9 (f:Fld) (WR:Cel→List Int) (l:List Gop) (s:List Trp × List Int) (i:Nat):(zeh f WR l s i).1.length=s.1.length∧(zeh f WR l s i).2.length≤s.2.length+1:=by
 unfold zeh
 split
 ·exact⟨rfl,by omega⟩
 ·simp
theorem zi4 (f:Fld) (WR:Cel→List Int) (l:List Gop) (ts:List Trp):∀k,(zdt f WR l ts k).1.length=ts.length∧(zdt f WR l ts k).2.length≤k
 | 0=>⟨rfl,Nat.le_refl _⟩
 | k+1=>by
  rw[zff]
  have h1:=zi4 f WR l ts k
  have h2:=zx9 f WR l (zdt f WR l ts k) k
  omega
def zgz (f:Fld) (WR:Cel→List Int) (l:List Gop) (ts:List Trp):List Trp × List Int:=zdt f WR l ts ts.length
def zmc (c:Cel):List Trp→Nat
 | []=>0
 | t::r=>(if t.c=c then 1 else 0)+zmc c r
theorem zo1 (c:Cel):∀l,zmc c l≤l.length
 | []=>Nat.le_refl _
 | t::r=>by have:=zo1 c r;rw[zmc,List.length_cons];split<;>omega
theorem zl3 (c:Cel) (m:List Trp):∀l,zmc c (l++m)=zmc c l+zmc c m
 | []=>by simp[zmc]
 | t::r=>by rw[List.cons_append,zmc,zmc,zl3 c m r];omega
theorem zwp (c:Cel) (t:Trp):∀(l:List Trp) (i:Nat),i<l.length→zmc c (l.set i t)+(if (l.getD i default).c=c then 1 else 0)=zmc c l+(if t.c=c then 1 else 0)
 | [],i,h=>by simp at h
 | a::r,0,_=>by rw[List.set_cons_zero,zmc,zmc,List.getD_cons_zero];omega
 | a::r,i+1,h=>by
  have:=zwp c t r i (by simpa using h)
  rw[List.set_cons_succ,zmc,zmc,List.getD_cons_succ];omega
theorem zwq (c:Cel):∀l:List Trp,0<zmc c l↔(l.any fun o=>decide (o.c=c))=true
 | []=>by simp[zmc]
 | t::r=>by
  rw[zmc,List.any_cons]
  have:=zwq c r
  by_cases h:t.c=c
  ·simp[h];omega
  ·simp only[h,if_false,decide_false,Bool.false_or,Nat.zero_add];exact this
def CntM (ts:List Trp) (es:List (List Int × Int)):Prop:=∀x y:Int,zc2 [x,y] es=(zmc ⟨x,y⟩ ts:Int)
theorem CntM.add {ts:List Trp} {es:List (List Int × Int)} (h:CntM ts es) (t:Trp):CntM (ts ++ [t]) (zgh [t.c.x,t.c.y] (zc2 [t.c.x,t.c.y] es+1) es):=by
 intro x y
 rw[zb5,zl3,zmc,zmc]
 obtain⟨i,o,kd,⟨cx,cy⟩,li,lo⟩:=t
 simp only
 by_cases e:x=cx∧y=cy
 ·obtain⟨rfl,rfl⟩:=e
  rw[if_pos rfl,if_pos rfl,h];omega
 ·rw[if_neg (by simpa using e),if_neg (fun he=>e (by cases he;exact⟨rfl,rfl⟩)),h];omega
theorem CntM.move {ts:List Trp} {es:List (List Int × Int)} (h:CntM ts es) {i:Nat} (hi:i<ts.length) (c:Cel) :
 CntM (ts.set i (zsf (ts.getD i default) c)) (zgh [c.x,c.y] (zc2 [c.x,c.y] (zgh [(ts.getD i default).c.x,(ts.getD i default).c.y] (zc2 [(ts.getD i default).c.x,(ts.getD i default).c.y] es-1) es)+1) (zgh [(ts.getD i default).c.x,(ts.getD i default).c.y] (zc2 [(ts.getD i default).c.x,(ts.getD i default).c.y] es-1) es)):=by
 intro x y
 have hs:=zwp ⟨x,y⟩ (zsf (ts.getD i default) c) ts i hi
 obtain⟨cx,cy⟩:=c
 have e2:(zsf (ts.getD i default) ⟨cx,cy⟩).c=⟨cx,cy⟩:=rfl
 rw[e2]at hs
 rcases ho:(ts.getD i default).c with ⟨ox,oy⟩
 rw[ho]at hs
 simp only at hs ⊢
 have k1:(([x,y]:List Int) = [cx,cy])=((⟨cx,cy⟩:Cel)=⟨x,y⟩):=by
  apply propext;constructor<;>intro h<;>cases h<;>rfl
 have k2:(([x,y]:List Int) = [ox,oy])=((⟨ox,oy⟩:Cel)=⟨x,y⟩):=by
  apply propext;constructor<;>intro h<;>cases h<;>rfl
 have k3:(([cx,cy]:List Int) = [ox,oy])=((⟨ox,oy⟩:Cel)=⟨cx,cy⟩):=by
  apply propext;constructor<;>intro h<;>cases h<;>rfl
 have h':∀x y:Int,zc2 [x,y] es=(zmc ⟨x,y⟩ ts:Int):=h
 rw[zb5,zb5,zb5]
 simp only[k1,k2,k3,h']
 by_cases a1:(⟨cx,cy⟩:Cel)=⟨x,y⟩
 ·have e3:x=cx∧y=cy:=by cases a1;exact⟨rfl,rfl⟩
  obtain⟨rfl,rfl⟩:=e3
  rw[if_pos rfl]at hs ⊢
  by_cases a2:(⟨ox,oy⟩:Cel)=⟨x,y⟩
  ·have e4:ox=x∧oy=y:=by cases a2;exact⟨rfl,rfl⟩
   obtain⟨rfl,rfl⟩:=e4
   rw[if_pos rfl]at hs ⊢;omega
  ·rw[if_neg a2]at hs
   rw[if_neg a2];omega
 ·rw[if_neg a1]at hs ⊢
  by_cases a2:(⟨ox,oy⟩:Cel)=⟨x,y⟩
  ·have e4:ox=x∧oy=y:=by cases a2;exact⟨rfl,rfl⟩
   obtain⟨rfl,rfl⟩:=e4
   rw[if_pos rfl]at hs ⊢;omega
  ·rw[if_neg a2]at hs ⊢;omega
end Go.Proofs.YtmjbgbmegbkmhaaGreat
namespace Go.Proofs.YtmjbgbmegbkmhaaGreat
set_option linter.all false
open Go.RowKit
set_option maxRecDepth 100000
set_option maxHeartbeats 2000000
abbrev ykx (g:Gop):AV := .agg [I .i64 g.id,I .i64 g.to.x,I .i64 g.to.y]
def zy5 (t:Trp) (g:Gop):Bool:=decide (g.id=t.id)
theorem yev (ts:List Trp) (i:Nat) (hi:i<ts.length) (g:Gop):Spec Tryz.prog 133 [ykx g,.ptr 0 0 0] [.blk 265 [.ptr 1 i 0],.row 108 7 (ts.map zat)] (B (zy5 (ts.getD i default) g)) [.blk 265 [.ptr 1 i 0],.row 108 7 (ts.map zat)]:=by
 refine spB Tryz.func133 11 [.tmp 3] Tryz.results133 ?_
 try refine xz2 (gd hi) zav ?_
 (try(refine⟨by kernel_rfl,?_⟩))
 try refine xz2 (gd hi) zav ?_
 refine zcc [0,1] rfl rfl (by decide) ⟨?_,?_,trivial⟩ trivial ?_<;>simp(etaStruct := .none)only[push_cast,zab,seval,zy5]
theorem yfj (ts:List Trp) (i:Nat) (hi:i<ts.length)(l:List Gop) (hl:l.length≤1000000):Spec Tryz.prog 132 [.c (.sl 3 (l.map zeu)),.clo (.func 133) [] [.ptr 0 0 0]] ([.blk 265 [.ptr 1 i 0],.row 108 7 (ts.map zat)]) (I .i64 (zh9 (zy5 (ts.getD i default)) l)) ([.blk 265 [.ptr 1 i 0],.row 108 7 (ts.map zat)]):=by
 refine spB Tryz.func132 19 [.tmp 4] Tryz.results132 ?_
 try refine xst ?_
 refine zaw (fun k:Nat=>⟨[(8,I .i64 k),(7,I .i64 l.length),(1,.clo (.func 133) [] [.ptr 0 0 0]),(0,.c (.sl 3 (l.map zeu)))],[(0,.blk 265 [.ptr 1 i 0]),(1,.row 108 7 (ts.map zat))],2⟩) (fun k:Nat=>k≤l.length∧∀j (hj:j<l.length),j<k→(zy5 (ts.getD i default)) l[j]=false) (fun k:Nat=>l.length-k) (0) (⟨Nat.zero_le _,fun j _ h=>absurd h (Nat.not_lt_zero _)⟩) (To.mk [0,1] rfl rfl (by decide) ?_ ?_) ?_
 ·simp(etaStruct := .none)only[push_cast,zab,seval]
 ·simp(etaStruct := .none)only[push_cast,zab,seval]
 rintro k ⟨hk,hno⟩
 try refine xst ?_
 refine cI (fun h1 => ?_) fun h1 => ?_
 ·have hlt:k<l.length:=by omega
  try refine xz2 (gd hlt) znc ?_
  refine caM [0,1] (yev ts i hi (l.getD k default)) ?_
  try refine xz2 (gd hlt) znc ?_
  refine cI (fun h2 => ?_) fun h2 => ?_
  ·have e:=zej (zy5 (ts.getD i default)) l k hlt (by rw[←zac l k hlt];exact h2) hno
   rw[e]
   try refine xz2 (gd hlt) znc ?_
   refine zcc [0,1] rfl rfl (by decide) ⟨?_,?_,trivial⟩ trivial ?_<;>simp(etaStruct := .none)only[push_cast,zab,seval]
  ·have hno2:∀j (hj:j<l.length),j<k+1→(zy5 (ts.getD i default)) l[j]=false:=fun j hj h=>by
    rcases Nat.lt_or_ge j k with h3|h3
    ·exact hno j hj h3
    ·obtain rfl:j=k:=by omega
     rw[←zac l j hj];exact h2
   try refine xz2 (gd hlt) znc ?_
   refine⟨k+1,⟨by omega,hno2⟩,by omega,To.mk [0,1] rfl rfl (by decide) ?_ ?_⟩
   ·(try(refine xz2 (gd hlt) znc ?_;try exact xtI))
   ·(try(refine xz2 (gd hlt) znc ?_;try exact xtI))
 ·have e:=zdh (zy5 (ts.getD i default)) l (fun j hj=>hno j hj (by omega))
  rw[e]
  try refine xst ?_
  refine zcc [0,1] rfl rfl (by decide) ⟨?_,?_,trivial⟩ trivial ?_<;>simp(etaStruct := .none)only[push_cast,zab,seval]
theorem zwd {l:List Gop} {t:Trp} : (zox l t.id=none∧zh9 (zy5 t) l = -1)∨∃(g:Gop) (j:Nat),zox l t.id=some g∧zh9 (zy5 t) l=(j:Int)∧j<l.length∧l.getD j default=g:=by
 cases h:zox l t.id with
 | none =>
  refine .inl ⟨rfl,?_⟩
  unfold zox at h
  refine zdh _ l fun j hj => ?_
  have:=List.find?_eq_none.1 h _ (List.getElem_mem hj)
  unfold zy5;simpa using this
 | some g =>
  unfold zox at h
  obtain⟨j,h1,h2,h3⟩:=ybc (p:=zy5 t) (l:=l) (x:=g) h
  exact .inr ⟨g,j,rfl,h1,h2,h3⟩
theorem zhd {f:Fld} {WR:Cel→List Int} {l:List Gop} {s:List Trp × List Int} {i:Nat} (h:zps f WR l s.1 (s.1.getD i default)=none):zeh f WR l s i=s:=by unfold zeh;rw[h]
theorem zs2 {f:Fld} {WR:Cel→List Int} {l:List Gop} {s:List Trp × List Int} {i:Nat} {c:Cel} (h:zps f WR l s.1 (s.1.getD i default)=some c):zeh f WR l s i=(s.1.set i (zsf (s.1.getD i default) c),s.2 ++ [(s.1.getD i default).id]):=by unfold zeh;rw[h]
theorem zxb {f:Fld} {WR:Cel→List Int} {l:List Gop} {ts:List Trp} {t:Trp} {g:Gop} (h:zox l t.id=some g):zps f WR l ts t=if (zyz f WR t.c g.to).length<2∨(ts.any fun o=>decide (o.c=(zyz f WR t.c g.to).getD 1 default))=true then none else some ((zyz f WR t.c g.to).getD 1 default):=by unfold zps;rw[h]
theorem yas (w:Wld) (l:List Gop) (WR:Cel→List Int) (hWR:∀a,zas w.f [a] (WR a)) (hl:w.f.p.length≤9223372036854775807) (hll:l.length≤1000) (hnt:w.troops.length≤100):Spec Tryz.prog 91 [.agg [I .i64 w.f.w,I .i64 w.f.h,.c (.sl 1 (w.f.p.map zad)),.c (.sl 2 (w.bases.map za2)),.c (.sl 1 (w.stocks.map zad)),.c (.sl 1 (w.mines.map zad)),.own 0,I .i64 w.next,I .i64 w.now],.c (.sl 3 (l.map zeu))] [.row 108 7 (w.troops.map zat)]
 (.c (.sl 1 ((zgz w.f WR l w.troops).2.map zad))) [.row 108 7 ((zgz w.f WR l w.troops).1.map zat)]:=by
 refine spB Tryz.func91 110 [.tmp 4] Tryz.results91 ?_
 (iterate 2((try simp(etaStruct := .none)only[push_cast,seval,zag]);(try(refine xsu ?_;try exact xtI))))
 refine zaw (fun x:Nat × List (List Int × Int)=>⟨[(19,I .i64 x.1),(18,I .i64 w.troops.length),(17,.own 0),(5,.map 2),(2,.ptr 1 0 0),(1,.c (.sl 3 (l.map zeu)))],[(0,.row 108 7 (w.troops.map zat)),(1,.blk 28 [I .i64 w.f.w,I .i64 w.f.h,.c (.sl 1 (w.f.p.map zad)),.c (.sl 2 (w.bases.map za2)),.c (.sl 1 (w.stocks.map zad)),.c (.sl 1 (w.mines.map zad)),.own 0,I .i64 w.next,I .i64 w.now]),(2,.mp true 2 x.2)],3⟩) (fun x:Nat × List (List Int × Int)=>x.1≤w.troops.length∧CntM (w.troops.take x.1) x.2) (fun x:Nat × List (List Int × Int)=>w.troops.length-x.1) ((0,[])) (⟨Nat.zero_le _,fun _ _=>rfl⟩) (To.mk [0,1,2] rfl rfl (by decide) ?_ ?_) ?_
 ·simp(etaStruct := .none)only[push_cast,zab,seval]
 ·simp(etaStruct := .none)only[push_cast,zab,seval]
 rintro⟨k,es⟩ ⟨hk,hc⟩
 simp only at hk hc
 (iterate 2((try simp(etaStruct := .none)only[push_cast,seval,zag]);(try(refine xsu ?_;try exact xtI))))
 refine cI (fun h1 => ?_) fun h1 => ?_
 ·have hlt:k<w.troops.length:=by omega
  have hca:=hc.add (w.troops.getD k default)
  rw[←zan _ _ hlt]at hca
  have hcb:=hc (w.troops.getD k default).c.x (w.troops.getD k default).c.y
  have hcl:=zo1 ⟨(w.troops.getD k default).c.x,(w.troops.getD k default).c.y⟩ (w.troops.take k)
  rw[List.length_take]at hcl
  have hmp:=zlh [(w.troops.getD k default).c.x,(w.troops.getD k default).c.y] es
  (iterate 2((try simp(etaStruct := .none)only[push_cast,seval,zag,zaa _ _ _ hlt,zat]);(try(refine xsu ?_;try exact xtI))))
  refine zbm [some 23,some 24,some 25,some 26,some 27,some 28,some 29,none] rfl ?_
  intro Oq lq Rq hlq hdq hRq
  subst hlq
  iterate 8(refine za1 fun rq hrq => ?_;(iterate 2((try simp(etaStruct := .none)only[push_cast,seval,hdq,id,zag,zaa _ _ _ hlt,zat]);(try(refine xsu ?_;try exact xtI))));subst hrq)
  refine zml ?_
  subst hRq
  clear hdq Oq
  refine zmk (by kernel_rfl) ?_
  (iterate 2((try simp(etaStruct := .none)only[push_cast,seval,zag,zaa _ _ _ hlt,zat]);(try(refine xsu ?_;try exact xtI))))
  refine⟨(k+1,zgh [(w.troops.getD k default).c.x,(w.troops.getD k default).c.y] (zc2 [(w.troops.getD k default).c.x,(w.troops.getD k default).c.y] es+1) es),⟨by simp only;omega,hca⟩,by simp only;omega,To.mk [0,1,2] rfl rfl (by decide) ?_ ?_⟩
  ·(iterate 2((try simp(etaStruct := .none)only[push_cast,seval,zag,zaa _ _ _ hlt,zat]);(try(refine xsu ?_;try exact xtI))))
  ·(iterate 2((try simp(etaStruct := .none)only[push_cast,seval,zag,zaa _ _ _ hlt,zat]);(try(refine xsu ?_;try exact xtI))))
 ·obtain rfl:k=w.troops.length:=by omega
  rw[List.take_length]at hc
  (iterate 2((try simp(etaStruct := .none)only[push_cast,seval,zag]);(try(refine xsu ?_;try exact xtI))))
  refine zaw (fun x:Nat × List (List Int × Int)=>⟨[(34,I .i64 x.1),(33,I .i64 w.troops.length),(8,.own 3),(5,.map 2),(2,.ptr 1 0 0),(1,.c (.sl 3 (l.map zeu)))],[(0,.row 108 7 ((zdt w.f WR l w.troops x.1).1.map zat)),(1,.blk 28 [I .i64 w.f.w,I .i64 w.f.h,.c (.sl 1 (w.f.p.map zad)),.c (.sl 2 (w.bases.map za2)),.c (.sl 1 (w.stocks.map zad)),.c (.sl 1 (w.mines.map zad)),.own 0,I .i64 w.next,I .i64 w.now]),(2,.mp true 2 x.2),(3,.row 3 1 ((zdt w.f WR l w.troops x.1).2.map zad))],4⟩) (fun x:Nat × List (List Int × Int)=>x.1≤w.troops.length∧CntM (zdt w.f WR l w.troops x.1).1 x.2) (fun x:Nat × List (List Int × Int)=>w.troops.length-x.1) ((0,es)) (⟨Nat.zero_le _,hc⟩) ((To.nil 8 3 1 rfl).trans (To.mk [0,1,2,3] rfl rfl (by decide) ?_ ?_)) ?_
  ·simp(etaStruct := .none)only[push_cast,zab,seval,zlm,List.map_nil]
  ·simp(etaStruct := .none)only[push_cast,zab,seval]
  rintro⟨k,em⟩ ⟨hk,hm⟩
  simp only at hk hm
  have hln:=zi4 w.f WR l w.troops k
  have hsk:=zff w.f WR l w.troops k
  obtain⟨S,hS⟩:∃S,S=zdt w.f WR l w.troops k:=⟨_,rfl⟩
  rw[←hS]at hm hln hsk
  (iterate 2((try simp(etaStruct := .none)only[push_cast,seval,zag,←hS,hln.1]);(try(refine xsu ?_;try exact xtI))))
  refine cI (fun h2 => ?_) fun h2 => ?_
  ·have hlt:k<S.1.length:=by omega
   (iterate 2((try simp(etaStruct := .none)only[push_cast,seval,zag,←hS,hln.1,zaa _ _ _ hlt,zat]);(try(refine xsu ?_;try exact xtI))))
   refine caM [4,0] (yfj S.1 k hlt l (by omega)) ?_
   (iterate 2((try simp(etaStruct := .none)only[push_cast,seval,zag,←hS,hln.1,zaa _ _ _ hlt,zat]);(try(refine xsu ?_;try exact xtI))))
   refine cI (fun h3 => ?_) fun h3 => ?_
   ·have hnone:zox l (S.1.getD k default).id=none:=by
     rcases zwd (l:=l) (t:=S.1.getD k default)with ⟨h,_⟩|⟨_,j,_,h,_⟩
     ·exact h
     ·rw[h]at h3;omega
    have hms:zeh w.f WR l S k=S:=zhd (by unfold zps;rw[hnone])
    (iterate 2((try simp(etaStruct := .none)only[push_cast,seval,zag,←hS,hln.1,zaa _ _ _ hlt,zat]);(try(refine xsu ?_;try exact xtI))))
    refine⟨(k+1,em),⟨by simp only;omega,by simp only;rw[hsk,hms];exact hm⟩,by simp only;omega,To.mk [0,1,2,3] rfl rfl (by decide) ?_ ?_⟩
    ·(try(refine xz2 hsk hms ?_;try exact xtI))
    ·(iterate 2((try simp(etaStruct := .none)only[push_cast,seval,zag,←hS,hln.1,zaa _ _ _ hlt,zat]);(try(refine xsu ?_;try exact xtI))))
   ·obtain⟨g,j,hg,hj,hjl,hge⟩:∃(g:Gop) (j:Nat),zox l (S.1.getD k default).id=some g∧zh9 (zy5 (S.1.getD k default)) l=(j:Int)∧j<l.length∧l.getD j default=g:=by
     rcases zwd (l:=l) (t:=S.1.getD k default)with ⟨_,h⟩|h
     ·rw[h]at h3;omega
     ·exact h
    obtain⟨wl,hwl⟩:∃wl,wl=zyz w.f WR (S.1.getD k default).c g.to:=⟨_,rfl⟩
    have hwy:(if zl9 (WR (S.1.getD k default).c) w.f (S.1.getD k default).c g.to=0 then ycp (WR (S.1.getD k default).c) w.f (S.1.getD k default).c g.to else [])=wl:=hwl.symm
    have hst:=zxb (f:=w.f) (WR:=WR) (ts:=S.1) hg
    rw[←hwl]at hst
    rcases Nat.lt_or_ge wl.length 2 with hA|hB
    ·have hms:zeh w.f WR l S k=S:=zhd (by rw[hst,if_pos (.inl hA)])
     have hAg:(wl.map za2).getD 1 [] = []:=by rw[List.getD_eq_getElem?_getD,List.getElem?_eq_none (by rw[List.length_map];omega)];rfl
     have hAl:((wl.length:Int)<2)=True:=eq_true (by omega)
     (iterate 2((try simp(etaStruct := .none)only[push_cast,seval,zag,←hS,hln.1,zaa _ _ _ hlt,zat,hj,zaa _ _ _ hjl,hge,zeu]);(try(refine xsu ?_;try exact xtI))))
     refine zbm [some 47,some 48,some 49,some 50,some 51,some 52,some 53,some 54,some 55,some 56,some 57,some 58,some 46,some 59,some 60,some 61,some 12,some 13,some 14] rfl ?_
     intro Oq lq Rq hlq hdq hRq
     subst hlq
     iterate 11(refine za1 fun rq hrq => ?_;(iterate 2((try simp(etaStruct := .none)only[push_cast,seval,hdq,id,zag,←hS,hln.1,zaa _ _ _ hlt,zat,hj,zaa _ _ _ hjl,hge,zeu]);(try(refine xsu ?_;try exact xtI))));subst hrq)
     refine za1 fun rq hrq => ?_
     (iterate 2((try simp(etaStruct := .none)only[push_cast,seval,hdq,id,zag,←hS,hln.1,zaa _ _ _ hlt,zat,hj,zaa _ _ _ hjl,hge,zeu]);(try(refine xsu ?_;try exact xtI))))
     refine zdl (z0m w.f (S.1.getD k default).c g.to hl (WR (S.1.getD k default).c) (hWR _)) (WkL.refl _) ?_
     rw[hwy]
     (iterate 2((try simp(etaStruct := .none)only[push_cast,seval,hdq,id,zag,←hS,hln.1,zaa _ _ _ hlt,zat,hj,zaa _ _ _ hjl,hge,zeu]);(try(refine xsu ?_;try exact xtI))))
     subst hrq
     iterate 7(refine za1 fun rq hrq => ?_;(iterate 2((try simp(etaStruct := .none)only[push_cast,seval,hdq,id,zag,←hS,hln.1,zaa _ _ _ hlt,zat,hj,zaa _ _ _ hjl,hge,zeu]);(try(refine xsu ?_;try exact xtI))));subst hrq)
     refine zml ?_
     subst hRq
     clear hdq Oq
     refine zmk (by kernel_rfl) ?_
     (iterate 2((try simp(etaStruct := .none)only[push_cast,seval,zag,←hS,hln.1,zaa _ _ _ hlt,zat,hAg,hAl,List.take_nil,List.map_nil]);(try(refine xsu ?_;try exact xtI))))
     refine zax (fun h4 => ?_) (fun h4 => ?_)
     ·(iterate 2((try simp(etaStruct := .none)only[push_cast,seval]);(try(refine xsu ?_;try exact xtI))))
      refine⟨(k+1,em),⟨by simp only;omega,by simp only;rw[hsk,hms];exact hm⟩,by simp only;omega,To.mk [0,1,2,3] rfl rfl (by decide) ?_ ?_⟩
      ·(try(refine xz2 hsk hms ?_;try exact xtI))
      ·(iterate 2((try simp(etaStruct := .none) (maxSteps:=1000000)only[push_cast,zab,seval]);(try(refine xsu ?_;try exact xtI))))
     ·simp at h4
    have hB1:1<wl.length:=by omega
    have hBl:((wl.length:Int)<2)=False:=eq_false (by omega)
    have hE0:zl9 (WR (S.1.getD k default).c) w.f (S.1.getD k default).c g.to=0:=by
     rcases Decidable.em (zl9 (WR (S.1.getD k default).c) w.f (S.1.getD k default).c g.to=0)with h|h
     ·exact h
     ·rw[hwl]at hB1;unfold zyz at hB1;rw[if_neg h]at hB1;simp at hB1
    have hcm:=hm (wl.getD 1 default).x (wl.getD 1 default).y
    have hcl:=zo1 ⟨(wl.getD 1 default).x,(wl.getD 1 default).y⟩ S.1
    have hanyc:=zwq ⟨(wl.getD 1 default).x,(wl.getD 1 default).y⟩ S.1
    (iterate 2((try simp(etaStruct := .none)only[push_cast,seval,zag,←hS,hln.1,zaa _ _ _ hlt,zat,hj,zaa _ _ _ hjl,hge,zeu,zaa _ _ _ hB1,za2,hBl,hE0]);(try(refine xsu ?_;try exact xtI))))
    refine zbm [some 47,some 48,some 49,some 50,some 51,some 52,some 53,some 54,some 55,some 56,some 57,some 58,some 46,some 59,some 60,some 61,some 12,some 13,some 14] rfl ?_
    intro Oq lq Rq hlq hdq hRq
    subst hlq
    iterate 11(refine za1 fun rq hrq => ?_;(iterate 2((try simp(etaStruct := .none)only[push_cast,seval,hdq,id,zag,←hS,hln.1,zaa _ _ _ hlt,zat,hj,zaa _ _ _ hjl,hge,zeu,zaa _ _ _ hB1,za2,hBl,hE0]);(try(refine xsu ?_;try exact xtI))));subst hrq)
    refine za1 fun rq hrq => ?_
    (iterate 2((try simp(etaStruct := .none)only[push_cast,seval,hdq,id,zag,←hS,hln.1,zaa _ _ _ hlt,zat,hj,zaa _ _ _ hjl,hge,zeu,zaa _ _ _ hB1,za2,hBl,hE0]);(try(refine xsu ?_;try exact xtI))))
    refine caP (z0m w.f (S.1.getD k default).c g.to hl (WR (S.1.getD k default).c) (hWR _)) ?_
    rw[hwy]
    (iterate 2((try simp(etaStruct := .none)only[push_cast,seval,hdq,id,zag,←hS,hln.1,zaa _ _ _ hlt,zat,hj,zaa _ _ _ hjl,hge,zeu,zaa _ _ _ hB1,za2,hBl,hE0]);(try(refine xsu ?_;try exact xtI))))
    subst hrq
    iterate 7(refine za1 fun rq hrq => ?_;(iterate 2((try simp(etaStruct := .none)only[push_cast,seval,hdq,id,zag,←hS,hln.1,zaa _ _ _ hlt,zat,hj,zaa _ _ _ hjl,hge,zeu,zaa _ _ _ hB1,za2,hBl,hE0]);(try(refine xsu ?_;try exact xtI))));subst hrq)
    refine zml ?_
    subst hRq
    clear hdq Oq
    refine zmk (by kernel_rfl) ?_
    (iterate 2((try simp(etaStruct := .none)only[push_cast,seval,zag,←hS,hln.1,zaa _ _ _ hlt,zat,hj,zaa _ _ _ hjl,hge,zeu,zaa _ _ _ hB1,za2,hBl,hE0]);(try(refine xsu ?_;try exact xtI))))
    refine cI (fun h4 => ?_) fun h4 => ?_
    ·have hms:zeh w.f WR l S k=S:=zhd (by rw[hst,if_pos (.inr (hanyc.1 (by omega)))])
     (iterate 2((try simp(etaStruct := .none)only[push_cast,seval,zag,←hS,hln.1,zaa _ _ _ hlt,zat,hj,zaa _ _ _ hjl,hge,zeu,zaa _ _ _ hB1,za2,hBl,hE0]);(try(refine xsu ?_;try exact xtI))))
     refine⟨(k+1,em),⟨by simp only;omega,by simp only;rw[hsk,hms];exact hm⟩,by simp only;omega,To.mk [0,1,2,3] rfl rfl (by decide) ?_ ?_⟩
     ·(try(refine xz2 hsk hms ?_;try exact xtI))
     ·(iterate 2((try simp(etaStruct := .none)only[push_cast,seval,zag,←hS,hln.1,zaa _ _ _ hlt,zat,hj,zaa _ _ _ hjl,hge,zeu,zaa _ _ _ hB1,za2,hBl,hE0]);(try(refine xsu ?_;try exact xtI))))
    ·have hno:¬(S.1.any fun o=>decide (o.c=(wl.getD 1 default)))=true:=fun h=>by have:=hanyc.2 h;omega
     have hms:zeh w.f WR l S k=(S.1.set k (zsf (S.1.getD k default) (wl.getD 1 default)),S.2 ++ [(S.1.getD k default).id]):=zs2 (by rw[hst,if_neg (fun h=>by rcases h with h|h;omega;exact hno h)])
     have hmv:=hm.move hlt (wl.getD 1 default)
     have hmp1:=zlh [(S.1.getD k default).c.x,(S.1.getD k default).c.y] em
     have hc1:=hm (S.1.getD k default).c.x (S.1.getD k default).c.y
     have hcl1:=zo1 ⟨(S.1.getD k default).c.x,(S.1.getD k default).c.y⟩ S.1
     have hmp2:=zlh [(wl.getD 1 default).x,(wl.getD 1 default).y] (zgh [(S.1.getD k default).c.x,(S.1.getD k default).c.y] (zc2 [(S.1.getD k default).c.x,(S.1.getD k default).c.y] em-1) em)
     have hb2 : -1≤zc2 [(wl.getD 1 default).x,(wl.getD 1 default).y] (zgh [(S.1.getD k default).c.x,(S.1.getD k default).c.y] (zc2 [(S.1.getD k default).c.x,(S.1.getD k default).c.y] em-1) em)∧zc2 [(wl.getD 1 default).x,(wl.getD 1 default).y] (zgh [(S.1.getD k default).c.x,(S.1.getD k default).c.y] (zc2 [(S.1.getD k default).c.x,(S.1.getD k default).c.y] em-1) em)≤100:=by
      rw[zb5];split<;>omega
     have hgs:∀x:List PV,((S.1.map zat).set k x).getD k []=x:=fun x=>by
      rw[List.getD_eq_getElem?_getD,List.getElem?_set_self (by rw[List.length_map];exact hlt)];rfl
     (iterate 2((try simp(etaStruct := .none)only[push_cast,seval,zag,←hS,hln.1,zaa _ _ _ hlt,zat,hj,zaa _ _ _ hjl,hge,zeu,zaa _ _ _ hB1,za2,hBl,hE0,hgs,List.length_set,List.set_set]);(try(refine xsu ?_;try exact xtI))))
     refine zbm [some 77,some 78,some 79,some 80,some 81,some 82,some 83,some 84,some 85,none] rfl ?_
     intro Oq lq Rq hlq hdq hRq
     subst hlq
     iterate 10(refine za1 fun rq hrq => ?_;(iterate 2((try simp(etaStruct := .none)only[push_cast,seval,hdq,id,zag,←hS,hln.1,zaa _ _ _ hlt,zat,hj,zaa _ _ _ hjl,hge,zeu,zaa _ _ _ hB1,za2,hBl,hE0,hgs,List.length_set,List.set_set]);(try(refine xsu ?_;try exact xtI))));subst hrq)
     refine zml ?_
     subst hRq
     clear hdq Oq
     refine zmk (by kernel_rfl) ?_
     (iterate 2((try simp(etaStruct := .none)only[push_cast,seval,zag,←hS,hln.1,zaa _ _ _ hlt,zat,hj,zaa _ _ _ hjl,hge,zeu,zaa _ _ _ hB1,za2,hBl,hE0,hgs,List.length_set,List.set_set]);(try(refine xsu ?_;try exact xtI))))
     refine zbm [some 86,some 87,some 88,some 89,some 90,some 91,none] rfl ?_
     intro Oq lq Rq hlq hdq hRq
     subst hlq
     iterate 7(refine za1 fun rq hrq => ?_;(iterate 2((try simp(etaStruct := .none)only[push_cast,seval,hdq,id,zag,←hS,hln.1,zaa _ _ _ hlt,zat,hj,zaa _ _ _ hjl,hge,zeu,zaa _ _ _ hB1,za2,hBl,hE0,hgs,List.length_set,List.set_set]);(try(refine xsu ?_;try exact xtI))));subst hrq)
     refine zml ?_
     subst hRq
     clear hdq Oq
     refine zmk (by kernel_rfl) ?_
     (iterate 2((try simp(etaStruct := .none)only[push_cast,seval,zag,←hS,hln.1,zaa _ _ _ hlt,zat,hj,zaa _ _ _ hjl,hge,zeu,zaa _ _ _ hB1,za2,hBl,hE0,hgs,List.length_set,List.set_set]);(try(refine xsu ?_;try exact xtI))))
     refine zbm [some 92,some 93,some 94,some 95,some 96,some 97,some 98,some 99,some 100,none] rfl ?_
     intro Oq lq Rq hlq hdq hRq
     subst hlq
     iterate 10(refine za1 fun rq hrq => ?_;(iterate 2((try simp(etaStruct := .none)only[push_cast,seval,hdq,id,zag,←hS,hln.1,zaa _ _ _ hlt,zat,hj,zaa _ _ _ hjl,hge,zeu,zaa _ _ _ hB1,za2,hBl,hE0,hgs,List.length_set,List.set_set]);(try(refine xsu ?_;try exact xtI))));subst hrq)
     refine zml ?_
     subst hRq
     clear hdq Oq
     refine zmk (by kernel_rfl) ?_
     (iterate 2((try simp(etaStruct := .none)only[push_cast,seval,zag,←hS,hln.1,zaa _ _ _ hlt,zat,hj,zaa _ _ _ hjl,hge,zeu,zaa _ _ _ hB1,za2,hBl,hE0,hgs,List.length_set,List.set_set]);(try(refine xsu ?_;try exact xtI))))
     refine⟨(k+1,zgh [(wl.getD 1 default).x,(wl.getD 1 default).y] (zc2 [(wl.getD 1 default).x,(wl.getD 1 default).y] (zgh [(S.1.getD k default).c.x,(S.1.getD k default).c.y] (zc2 [(S.1.getD k default).c.x,(S.1.getD k default).c.y] em-1) em)+1) (zgh [(S.1.getD k default).c.x,(S.1.getD k default).c.y] (zc2 [(S.1.getD k default).c.x,(S.1.getD k default).c.y] em-1) em)),⟨by simp only;omega,by simp only;rw[hsk,hms];exact hmv⟩,by simp only;omega,To.mk [0,1,2,190] rfl rfl (by decide) ?_ ?_⟩
     ·(iterate 2((try simp(etaStruct := .none)only[push_cast,zab,seval,hsk,hms,List.map_set,List.map_append,zat,zsf,zad]);(try(refine xsu ?_;try exact xtI))))
     ·(iterate 2((try simp(etaStruct := .none)only[push_cast,seval,zag,←hS,hln.1,zaa _ _ _ hlt,zat,hj,zaa _ _ _ hjl,hge,zeu,zaa _ _ _ hB1,za2,hBl,hE0,hgs,List.length_set,List.set_set]);(try(refine xsu ?_;try exact xtI))))
  ·obtain rfl:k=w.troops.length:=by omega
   have hmv:zgz w.f WR l w.troops=S:=hS.symm
   (iterate 2((try simp(etaStruct := .none)only[push_cast,seval,zag,←hS,hln.1]);(try(refine xsu ?_;try exact xtI))))
   refine zcc [0] rfl rfl (by decide) ⟨?_,trivial⟩ trivial ?_<;>simp(etaStruct := .none)only[push_cast,zab,seval,hmv]
end Go.Proofs.YtmjbgbmegbkmhaaGreat
namespace Go.Proofs.YtmjbgbmegbkmhaaGreat
set_option linter.all false
open Go.RowKit
set_option maxRecDepth 100000
structure Right (w : Wld) : Prop where
 f:zbk w.f=0
 nb:w.bases.length≤8
 nt:w.troops.length≤100
 sl:w.stocks.length=w.bases.length
 ml:w.mines.length=w.f.p.length
 nx:1≤w.next∧w.next≤1000000
 nw:0≤w.now∧w.now≤1000000
 base:∀i,i<w.bases.length→zb2 w.f (w.bases.getD i default)=true∧(0≤w.stocks.getD i default∧w.stocks.getD i default≤1000000)∧∀j,j<i→w.bases.getD j default≠w.bases.getD i default
 mine:∀i,i<w.mines.length→(0≤w.mines.getD i default∧w.mines.getD i default≤1000000)∧(w.mines.getD i default=0∨w.f.p.getD i default=3)
 trp:∀k,k<w.troops.length→TrpOk w (w.troops.getD k default)
 ord:∀j k,j<k→k<w.troops.length→(w.troops.getD j default).id<(w.troops.getD k default).id∧(w.troops.getD j default).c≠(w.troops.getD k default).c
theorem zcn {w:Wld} (h:zam w=0):Right w:=by
 obtain⟨h1,h2,h3,h4,h5⟩:=zdd h
 obtain⟨g1,g2,g3,g4⟩:=zkf h4
 unfold zhp at h5
 simp only[Bool.and_eq_true]at h5
 obtain⟨⟨b1,b2⟩,b3⟩:=h5
 rw[zbd]at b1 b2 b3
 refine⟨h1,h2,h3,g1,g2,g3,g4,fun i hi => ?_,fun i hi => ?_,fun k hk=>(ze9 h hk).1,fun j k hjk hk => ?_⟩
 ·have:=b1 i hi
  unfold zmq at this
  simp only[Bool.and_eq_true,within_iff]at this
  obtain⟨⟨a1,a2⟩,a3⟩:=this
  rw[zbd]at a3
  exact⟨a1,a2,fun j hj=>by have:=a3 j hj;simpa using this⟩
 ·have:=b2 i hi
  unfold zmi at this
  simp only[Bool.and_eq_true,Bool.or_eq_true,within_iff,decide_eq_true_eq]at this
  exact this
 ·have h6:=(ze9 h hk).2
  unfold z7s at h6
  have:=(zbd _ _).1 h6 j hjk
  simp only[Bool.and_eq_true,decide_eq_true_eq,Bool.not_eq_true',decide_eq_false_iff_not]at this
  exact this
theorem Right.e {w:Wld} (h:Right w):zam w=0:=by
 have hb:¬(8<w.bases.length∨100<w.troops.length):=by have:=h.nb;have:=h.nt;omega
 refine zr1 h.f hb ?_ ?_
 ·unfold zjg
  rw[decide_eq_true h.sl,decide_eq_true h.ml,(within_iff).2 h.nx,(within_iff).2 h.nw];rfl
 ·unfold zhp
  rw[Bool.and_eq_true,Bool.and_eq_true,zbd,zbd,zbd]
  refine⟨⟨fun i hi => ?_,fun i hi => ?_⟩,fun i hi => ?_⟩
  ·obtain⟨a1,a2,a3⟩:=h.base i hi
   unfold zmq
   rw[a1,(within_iff).2 a2,Bool.true_and,Bool.true_and,zbd]
   intro j hj
   rw[decide_eq_false (a3 j hj)];rfl
  ·obtain⟨a1,a2⟩:=h.mine i hi
   unfold zmi
   rw[(within_iff).2 a1,Bool.true_and,Bool.or_eq_true,decide_eq_true_eq,decide_eq_true_eq];exact a2
  ·have ok:=h.trp i hi
   unfold zey ycq z7s
   rw[(within_iff).2 (by rcases ok.kind with e|e<;>omega),(within_iff).2 ok.id,(within_iff).2 ok.owner,ok.at_,(within_iff).2 ok.life,(within_iff).2 ok.load,Bool.true_and,Bool.true_and,Bool.true_and,Bool.true_and,Bool.true_and,Bool.true_and,zbd]
   intro j hj
   obtain⟨c1,c2⟩:=h.ord j i hj hi
   rw[decide_eq_true c1,decide_eq_false c2];rfl
theorem Right.l {w:Wld} (h:Right w):ze8 w:=by
 obtain⟨⟨f1,f2⟩,⟨f3,f4⟩,f5,f6⟩:=zbc h.f
 have hm:w.f.w*w.f.h≤40*40:=Int.mul_le_mul f2 f4 (by omega) (by omega)
 have a1:=h.nb;have a2:=h.nt;have a3:=h.sl;have a4:=h.ml
 unfold ze8;omega
theorem Right.places {w:Wld} (h:Right w):w.f.p.length≤1600:=by
 obtain⟨⟨f1,f2⟩,⟨f3,f4⟩,f5,f6⟩:=zbc h.f
 have hm:w.f.w*w.f.h≤40*40:=Int.mul_le_mul f2 f4 (by omega) (by omega)
 omega
theorem zhq {w:Wld} {t:Trp} (hk:t.kind=1∨t.kind=2) (hi:1≤t.id∧t.id≤w.next-1) (ho:0≤t.owner∧t.owner≤(w.bases.length:Int)-1) (hg:zb2 w.f t.c=true) (hl:1≤t.life∧t.life≤(zbe t.kind).life) (hd:0≤t.load∧t.load≤5*(2-t.kind)):TrpOk w t:=by
 have h:=inF_iff.1 (ground_iff.1 hg).1
 exact⟨hk,hi,ho,hg,h.1,h.2,hl,hd⟩
theorem zic {α : Type} [Inhabited α] {l:List α} {i:Nat} (v : α) (p:Nat) (hi:i<l.length):(l.set i v).getD p default=if p=i then v else l.getD p default:=by
 by_cases h:p=i
 ·subst h;rw[if_pos rfl,zac _ _ (by simpa using hi)];simp
 ·rw[if_neg h]
  simp only[List.getD_eq_getElem?_getD,List.getElem?_set,if_neg (Ne.symm h)]
theorem zun {α : Type} [Inhabited α] (l:List α) (i:Nat) (hi:i<l.length):l.set i (l.getD i default)=l:=by
 refine List.ext_getElem (by simp) fun j h1 h2 => ?_
 rw[List.getElem_set]
 split
 ·rename_i h;subst h;rw[zac _ _ hi]
 ·rfl
theorem zqa {w:Wld} (h:Right w) (l:List Blw) (hb:∀id,0≤zft w l id):Right (zeo w l):=by
 have hsub:(zh6 w l).length≤w.troops.length:=by
  have:=List.length_filter_le (fun t:Trp=>decide (0<t.life)) (w.troops.map (zdr w l))
  rw[List.length_map]at this;exact this
 have hp:(zh6 w l).Pairwise fun a b=>a.id<b.id∧a.c≠b.c:=by
  refine List.Pairwise.filter _ ?_
  rw[List.pairwise_map,List.pairwise_iff_getElem]
  intro i j hi hj hij
  have:=h.ord i j hij hj
  rw[zac _ _ hi,zac _ _ hj]at this
  exact this
 refine⟨h.f,h.nb,Nat.le_trans hsub h.nt,h.sl,h.ml,h.nx,h.nw,h.base,h.mine,fun k hk => ?_,fun j k hjk hk => ?_⟩
 ·have hk':k<(zh6 w l).length:=hk
  have hm:=zaz _ _ hk'
  obtain⟨h1,h2⟩:=List.mem_filter.1 hm
  obtain⟨t,ht,e⟩:=List.mem_map.1 h1
  obtain⟨q,hq,e2⟩:=mem_getD.1 ht
  have ok:=h.trp q hq
  rw[e2]at ok
  change TrpOk (zeo w l) ((zh6 w l).getD k default)
  rw[←e]at h2 ⊢
  rw[decide_eq_true_eq]at h2
  have hh:=hb t.id
  have hlf:=ok.life
  refine zhq ok.kind ok.id ok.owner ok.at_ ⟨by omega,?_⟩ ok.load
  change t.life-zft w l t.id≤(zbe t.kind).life
  omega
 ·have hj:j<(zh6 w l).length:=Nat.lt_trans hjk hk
  have:=List.pairwise_iff_getElem.1 hp j k hj hk hjk
  change ((zh6 w l).getD j default).id<((zh6 w l).getD k default).id∧((zh6 w l).getD j default).c≠((zh6 w l).getD k default).c
  rw[zac (zh6 w l) _ hj,zac (zh6 w l) _ hk];exact this
end Go.Proofs.YtmjbgbmegbkmhaaGreat
namespace Go.Proofs.YtmjbgbmegbkmhaaGreat
set_option linter.all false
open Go.RowKit
set_option maxRecDepth 100000
set_option maxHeartbeats 2000000
def zz3 (w:Wld) (ts:List Trp):Wld:={ w with troops:=ts }
abbrev yjq (w:Wld) (t:AV):List AV := [I .i64 w.f.w,I .i64 w.f.h,.c (.sl 1 (w.f.p.map zad)),.c (.sl 2 (w.bases.map za2)),.c (.sl 1 (w.stocks.map zad)),.c (.sl 1 (w.mines.map zad)),t,I .i64 w.next,I .i64 w.now]
theorem yet (w:Wld) (hb:w.f.p.length≤1600∧w.bases.length≤8∧w.stocks.length≤8∧w.mines.length≤1600∧w.troops.length≤100):Spec Tryz.prog 90 [zcx w] [] (.agg (yjq w (.own 0))) [.row 108 7 (w.troops.map zat)]:=by
 refine spB Tryz.func90 26 [.cell 2 28] Tryz.results90 ?_
 try refine xst ?_
 refine caM [] (zd9 w.f.p (by omega)) ?_
 try refine xst ?_
 refine caM [] (zrr w.bases (by omega)) ?_
 try refine xst ?_
 refine caM [] (zd9 w.stocks (by omega)) ?_
 try refine xst ?_
 (try(refine⟨by kernel_rfl,?_⟩))
 try refine xst ?_
 refine caM [] (zd9 w.mines (by omega)) ?_
 try refine xst ?_
 refine caM [] (zko w.troops (by omega)) ?_
 try refine xst ?_
 (try(refine⟨by kernel_rfl,?_⟩))
 try refine xst ?_
 refine zcc [63] rfl rfl (by decide) ⟨?_,trivial⟩ ⟨rfl,trivial⟩ (Wk.of ?_)
 ·simp(etaStruct := .none)only[push_cast,zab,seval]
 ·first|rfl|kernel_rfl
def zkt (w:Wld) (l:List Gop):Int:=if zam w≠0 then zam w else if 200<l.length then 2 else 0
theorem z9z {w:Wld} (hw:Right w):w.f.p.length≤1600∧w.bases.length≤8∧w.stocks.length≤8∧w.mines.length≤1600∧w.troops.length≤100:=by
 have hfo:=zbc hw.f
 have hm2:w.f.w*w.f.h≤40*40:=Int.mul_le_mul hfo.1.2 hfo.2.1.2 (by omega) (by omega)
 have h1:=hw.nb
 have h2:=hw.sl
 have h3:=hw.ml
 have h4:=hw.nt
 omega
theorem z5r (w:Wld) (l:List Gop) (WR:Cel→List Int) (hWR:∀a,zas w.f [a] (WR a)) (hl:ze8 w) (hll:l.length≤9223372036854775807):Spec Tryz.prog 48 [zcx w,.c (.sl 3 (l.map zeu))] [] (.tup [zcx (if zkt w l=0 then zz3 w (zgz w.f WR l w.troops).1 else default),.c (.sl 1 ((if zkt w l=0 then (zgz w.f WR l w.troops).2 else []).map zad)),I .i64 (zkt w l)]) []:=by
 refine spB Tryz.func48 26 [.cell 4 28,.tmp 5,.tmp 6] Tryz.results48 ?_
 try refine xst ?_
 refine caP (zdw w hl) ?_
 try refine xst ?_
 refine cI (fun h1 => ?_) fun h1 => ?_
 ·have e:zkt w l=zam w:=by unfold zkt;rw[if_pos h1]
  rw[e,if_neg h1,if_neg h1]
  try refine xst ?_
  exact xrz rfl
 ·have hw:=zcn h1
  try refine xst ?_
  refine cI (fun h2 => ?_) fun h2 => ?_
  ·have e:zkt w l=2:=by unfold zkt;rw[if_neg (by simp[h1]),if_pos (by omega)]
   rw[e,if_neg (by decide),if_neg (by decide)]
   try refine xst ?_
   exact xrz rfl
  ·have e:zkt w l=0:=by unfold zkt;rw[if_neg (by simp[h1]),if_neg (by omega)]
   rw[e,if_pos rfl,if_pos rfl]
   have hb:=z9z hw
   try refine xst ?_
   refine caM [] (yet w hb) ?_
   try refine xst ?_
   refine caM [2] (yas w l WR hWR (by omega) (by omega) (by omega)) ?_
   try refine xst ?_
   refine zb0 rfl (by repeat' (first|exact trivial|exact rfl|refine⟨?_,?_⟩)) (Wk.of ?_)
   first|rfl|kernel_rfl
end Go.Proofs.YtmjbgbmegbkmhaaGreat
namespace Go.Proofs.YtmjbgbmegbkmhaaGreat
set_option linter.all false
open Go.RowKit
set_option maxRecDepth 100000
theorem zkh {f:Fld} {a b:Cel} {R:List Int} {W H:Nat} (s:Srch f a b R W H) (hf:zbk f=0) (ha:inF f a=true) (hpa:zah f a≠1):∀(N:Nat) (c:Cel),inF f c=true→0≤R.getD (zal f c) default→∀x∈zza R f a N c,zb2 f x=true
 | 0,c,_,_,x,hx=>by unfold zza at hx;cases hx
 | N+1,c,hc,h0,x,hx=>by
  unfold zza at hx
  by_cases hca:c=a
  ·rw[if_pos hca]at hx;cases hx
  ·rw[if_neg hca]at hx
   obtain⟨_,_,h3,_,h5,_⟩:=z03 s.w s.h s.w0 hf s.l s.r ha hc hca h0
   rcases List.mem_cons.1 hx with e|hx
   ·rw[e,ground_iff]
    refine⟨h3,?_⟩
    obtain⟨en,hnL⟩:=zbi s.w s.h s.w0 hf h3
    rcases s.r.why _ hnL h5 with ⟨w1,_⟩|⟨_,_,_,hr,_⟩
    ·rw[List.mem_singleton]at w1
     have epl:∀n,zah f n=f.p.getD (zal f n) default:=fun _=>rfl
     rw[epl,w1];exact hpa
    ·exact hr
   ·exact zkh s hf ha hpa N _ h3 h5 x hx
theorem zr4 {f:Fld} {WR:Cel→List Int} (hWR:∀a,zas f [a] (WR a)) {a b x:Cel} (hx:x∈zyz f WR a b):zb2 f x=true:=by
 unfold zyz at hx
 by_cases he:zl9 (WR a) f a b=0
 ·rw[if_pos he]at hx
  unfold zl9 at he
  by_cases hf:zbk f=0
  ·rw[if_neg (by simpa using hf)]at he
   by_cases hi:inF f a=true∧inF f b=true
   ·rw[if_neg (by simpa using hi)]at he
    by_cases hp:zah f a=1∨zah f b=1
    ·rw[if_pos hp]at he;exact absurd he (by decide)
    ·rw[if_neg hp]at he
     by_cases hr:(WR a).getD (zal f b) default<0
     ·rw[if_pos hr]at he;exact absurd he (by decide)
     ·have hpa:zah f a≠1:=fun h=>hp (Or.inl h)
      have hpb:zah f b≠1:=fun h=>hp (Or.inr h)
      obtain⟨W,H,s⟩:=yge (b:=b) hf hi.1 hpa (hWR a)
      unfold ycp at hx
      rw[List.mem_reverse]at hx
      rcases List.mem_cons.1 hx with e|hx
      ·rw[e];exact ground_iff.2 ⟨hi.2,hpb⟩
      ·exact zkh s hf hi.1 hpa _ b hi.2 (by omega) x hx
   ·rw[if_pos hi]at he;exact absurd he (by decide)
  ·rw[if_pos hf]at he;exact absurd he hf
 ·rw[if_neg he]at hx;cases hx
theorem zpr {f:Fld} {WR:Cel→List Int} (hWR:∀a,zas f [a] (WR a)) {l:List Gop} {ts:List Trp} {t:Trp} {c:Cel} (h:zps f WR l ts t=some c):zb2 f c=true∧(ts.any fun o=>decide (o.c=c))=false:=by
 unfold zps at h
 split at h
 ·cases h
 ·rename_i g _
  split at h
  ·cases h
  ·rename_i hn
   cases h
   have h1:1<(zyz f WR t.c g.to).length:=by omega
   refine⟨zr4 hWR (zaz _ _ h1),?_⟩
   cases e:ts.any fun o=>decide (o.c=(zyz f WR t.c g.to).getD 1 default)with
   | false=>rfl
   | true=>exact absurd (Or.inr e) hn
theorem zxm {w:Wld} (h:Right w) {i:Nat} (hi:i<w.troops.length) {c:Cel} (hg:zb2 w.f c=true) (hn:(w.troops.any fun o=>decide (o.c=c))=false):Right (zz3 w (w.troops.set i (zsf (w.troops.getD i default) c))):=by
 have G:=fun p=>zic (zsf (w.troops.getD i default) c) p hi
 have hno:∀k,k<w.troops.length→(w.troops.getD k default).c≠c:=fun k hk e=>by
  have:=List.any_eq_false.1 hn _ (zaz _ _ hk)
  rw[e]at this;simp at this
 refine⟨h.f,h.nb,by simpa[zz3]using h.nt,h.sl,h.ml,h.nx,h.nw,h.base,h.mine,fun k hk => ?_,fun j k hjk hk => ?_⟩
 ·have hk':k<w.troops.length:=by simpa[zz3]using hk
  have e:∀t,TrpOk w t→TrpOk (zz3 w (w.troops.set i (zsf (w.troops.getD i default) c))) t:=fun t ht=>⟨ht.kind,ht.id,ht.owner,ht.at_,ht.x,ht.y,ht.life,ht.load⟩
  have G':=G k
  change TrpOk _ ((w.troops.set i (zsf (w.troops.getD i default) c)).getD k default)
  rw[G']
  split
  ·have ok:=h.trp i hi
   exact e _ (zhq ok.kind ok.id ok.owner hg ok.life ok.load)
  ·exact e _ (h.trp k hk')
 ·have hk':k<w.troops.length:=by simpa[zz3]using hk
  have hj':j<w.troops.length:=Nat.lt_trans hjk hk'
  have:=h.ord j k hjk hk'
  change ((w.troops.set i (zsf (w.troops.getD i default) c)).getD j default).id<((w.troops.set i (zsf (w.troops.getD i default) c)).getD k default).id∧((w.troops.set i (zsf (w.troops.getD i default) c)).getD j default).c≠((w.troops.set i (zsf (w.troops.getD i default) c)).getD k default).c
  rw[G j,G k]
  by_cases e1:j=i
  ·have e2:k≠i:=by omega
   rw[if_pos e1,if_neg e2]
   subst e1
   exact⟨this.1,fun e=>hno k hk' e.symm⟩
  ·rw[if_neg e1]
   by_cases e2:k=i
   ·rw[if_pos e2]
    subst e2
    exact⟨this.1,fun e=>hno j hj' e⟩
   ·rw[if_neg e2];exact this
theorem zjj {w:Wld} (h:Right w) {WR:Cel→List Int} (hWR:∀a,zas w.f [a] (WR a)) (l:List Gop):∀k,k≤w.troops.length→Right (zz3 w (zdt w.f WR l w.troops k).1)
 | 0,_=>by rw[zlm];exact h
 | k+1,hk=>by
  have ih:=zjj h hWR l k (by omega)
  have hlen:=(zi4 w.f WR l w.troops k).1
  rw[zff]
  unfold zeh
  split
  ·exact ih
  ·rename_i c hs
   obtain⟨g1,g2⟩:=zpr hWR hs
   exact zxm ih (i:=k) (by change k<(zdt w.f WR l w.troops k).1.length;omega) g1 g2
theorem zn3 {w:Wld} (h:Right w) {WR:Cel→List Int} (hWR:∀a,zas w.f [a] (WR a)) (l:List Gop):Right (zz3 w (zgz w.f WR l w.troops).1):=zjj h hWR l _ (Nat.le_refl _)
structure HitInv (w : Wld) (m : List Blw) (harm : List Int) (done : List Bool) : Prop where
 l1:harm.length=w.troops.length
 l2:done.length=w.troops.length
 val:∀j,j<w.troops.length→harm.getD j default=zft w m (w.troops.getD j default).id
 low:∀j,j<w.troops.length→0≤harm.getD j default∧harm.getD j default≤4*m.length
 did:∀j,j<w.troops.length→done.getD j default=m.any (zlv w (w.troops.getD j default))
theorem HitInv.start (w:Wld):HitInv w [] (List.replicate w.troops.length 0) (List.replicate w.troops.length false):=by
 have g:∀j,j<w.troops.length→(List.replicate w.troops.length (0:Int)).getD j default=0:=fun j hj=>by rw[zac _ _ (by simpa using hj)];simp
 have g2:∀j,j<w.troops.length→(List.replicate w.troops.length false).getD j default=false:=fun j hj=>by rw[zac _ _ (by simpa using hj)];simp
 exact⟨by simp,by simp,fun j hj=>by rw[g j hj,zv0],fun j hj=>by rw[g j hj];simp,fun j hj=>by rw[g2 j hj];rfl⟩
theorem HitInv.skip {w:Wld} (hu:Ups w) {m:List Blw} {harm:List Int} {done:List Bool} (h:HitInv w m harm done) (b:Blw) (hs:zmo w b=false∨∃i,i<w.troops.length∧(w.troops.getD i default).id=b.by_∧done.getD i default=true):HitInv w (m ++ [b]) harm done:=by
 have hs':zmo w b=false∨∃i,i<w.troops.length∧(w.troops.getD i default).id=b.by_∧m.any (zlv w (w.troops.getD i default))=true:=by
  rcases hs with hs|⟨i,hi,e,hd⟩
  ·exact .inl hs
  ·exact .inr ⟨i,hi,e,by rw[←h.did i hi];exact hd⟩
 refine⟨h.l1,h.l2,fun j hj=>by rw[z2a hu _ _ _ hs'];exact h.val j hj,fun j hj => ?_,fun j hj => ?_⟩
 ·have:=h.low j hj
  rw[List.length_append];simp only[List.length_cons,List.length_nil];omega
 ·rw[List.any_append,h.did j hj]
  simp only[List.any_cons,List.any_nil,Bool.or_false]
  cases hp:zlv w (w.troops.getD j default) b with
  | false=>rw[Bool.or_false]
  | true =>
   rw[Bool.or_true]
   unfold zlv at hp
   simp only[Bool.and_eq_true,decide_eq_true_eq]at hp
   rcases hs' with hs|⟨i,hi,e,hd⟩
   ·rw[hs]at hp;simp at hp
   ·by_cases hij:i=j
    ·subst hij;exact hd
    ·exact absurd (e.trans hp.1) (hu.ne hi hj hij)
theorem HitInv.go {w:Wld} (hu:Ups w) {m:List Blw} {harm:List Int} {done:List Bool} (h:HitInv w m harm done) {b:Blw} (hb:zmo w b=true) {i j:Nat} (hi:i<w.troops.length) (hj:j<w.troops.length) (ei:(w.troops.getD i default).id=b.by_) (ej:(w.troops.getD j default).id=b.at_) (hd:done.getD i default=false) :
 HitInv w (m ++ [b]) (harm.set j (harm.getD j default+(zbe (w.troops.getD i default).kind).load)) (done.set i true):=by
 have hn:m.any (zlv w (w.troops.getD i default))=false:=by rw[←h.did i hi];exact hd
 have hk:=zls (w.troops.getD i default).kind
 refine⟨by rw[List.length_set];exact h.l1,by rw[List.length_set];exact h.l2,fun q hq => ?_,fun q hq => ?_,fun q hq => ?_⟩
 ·rw[ydr _ _ (by rw[h.l1];exact hj),z19 hu _ _ _ hb hi ei hn]
  by_cases e:q=j
  ·subst e
   rw[if_pos rfl,if_pos ej.symm,h.val q hq]
  ·rw[if_neg e,if_neg (fun e2=>hu.ne hq hj e (e2.symm.trans ej.symm)),h.val q hq,Int.add_zero]
 ·rw[ydr _ _ (by rw[h.l1];exact hj),List.length_append]
  have h1:=h.low q hq
  have h2:=h.low j hj
  simp only[List.length_cons,List.length_nil]
  split<;>omega
 ·rw[yh7 _ _ (by rw[h.l2];exact hi),List.any_append]
  simp only[List.any_cons,List.any_nil,Bool.or_false]
  by_cases e:q=i
  ·subst e
   rw[if_pos rfl,show zlv w (w.troops.getD q default) b=true by unfold zlv;rw[hb,ei];simp,Bool.or_true]
  ·rw[if_neg e,h.did q hq,show zlv w (w.troops.getD q default) b=false by
    unfold zlv;rw[decide_eq_false (fun e2=>hu.ne hq hi e (e2.symm.trans ei.symm))];rfl,Bool.or_false]
section
variable {w : Wld} {b : Blw} {i j : Nat} {p q : Bool}
theorem z69 (h1:p=(zda w b.by_).isSome) (h2:(zda w b.by_).isSome=true→(w.troops.getD i default).id=b.by_∧(zda w b.by_).getD z7t=w.troops.getD i default)
 (h3:q=(zda w b.at_).isSome) (h4:(zda w b.at_).isSome=true→(w.troops.getD j default).id=b.at_∧(zda w b.at_).getD z7t=w.troops.getD j default) (hp:p=true) (hq:q=true) (hc:zjq w (w.troops.getD i default) (w.troops.getD j default)=true) :
 zmo w b=true∧(w.troops.getD i default).id=b.by_∧(w.troops.getD j default).id=b.at_:=by
 rw[hp]at h1;rw[hq]at h3
 have a:=h2 h1.symm
 have c:=h4 h3.symm
 refine⟨?_,a.1,c.1⟩
 unfold zmo;rw[←h1,←h3,a.2,c.2,hc];rfl
theorem yce {done:List Bool} (hi:i<w.troops.length) (h1:p=(zda w b.by_).isSome) (h2:(zda w b.by_).isSome=true→(w.troops.getD i default).id=b.by_∧(zda w b.by_).getD z7t=w.troops.getD i default)
 (h3:q=(zda w b.at_).isSome) (h4:(zda w b.at_).isSome=true→(w.troops.getD j default).id=b.at_∧(zda w b.at_).getD z7t=w.troops.getD j default) (h:((p=false∨q=false)∨done.getD i default=true)∨zjq w (w.troops.getD i default) (w.troops.getD j default)=false) :
 zmo w b=false∨∃i,i<w.troops.length∧(w.troops.getD i default).id=b.by_∧done.getD i default=true:=by
 unfold zmo
 rw[←h1,←h3]
 cases p with
 | false=>exact .inl rfl
 | true =>
  cases q with
  | false=>exact .inl rfl
  | true =>
   have a:=h2 h1.symm
   have c:=h4 h3.symm
   rw[a.2,c.2]
   rcases h with (h|h)|h
   ·simp at h
   ·exact .inr ⟨i,hi,a.1,h⟩
   ·exact .inl (by rw[h];rfl)
end
end Go.Proofs.YtmjbgbmegbkmhaaGreat
namespace Go.Proofs.YtmjbgbmegbkmhaaGreat
set_option linter.all false
open Go.RowKit
set_option maxRecDepth 100000
set_option maxHeartbeats 1000000
theorem ycc (w:Wld) (l:List Blw) (hl:ze8 w) (hw:zam w=0) (hll:l.length≤200) (ht:0<w.troops.length):Spec Tryz.prog 88 [zcx w,.c (.sl 2 (l.map zex))] [] (.tup [.c (.sl 1 ((zhg w l).map zad)),I .i64 (zbj w l)]) []:=by
 have e:zbj w l=0:=by unfold zbj;rw[if_neg (by simp[hw]),if_neg (by omega)]
 have hu:=ydb hw
 obtain⟨w1,w2,w3,w4,w5⟩:=zdd hw
 refine spB Tryz.func88 120 [.tmp 4,.tmp 5] Tryz.results88 ?_
 try refine xst ?_
 refine caP (zdw w hl) ?_
 try refine xst ?_
 refine cI (fun h1 => ?_) fun h1 => ?_
 ·exact absurd hw h1
 ·try refine xst ?_
  refine cI (fun h2 => ?_) fun h2 => ?_
  ·omega
  ·try refine xst ?_
   refine zaw (fun x:Nat × List (List Int × Int)=>⟨[(32,I .i64 x.1),(31,I .i64 w.troops.length),(30,.c (.sl 7 (w.troops.map zat))),(7,.map 1),(2,.ptr 0 0 0),(1,.c (.sl 2 (l.map zex)))],[(0,.blk 28 (zkg w)),(1,.mp false 1 x.2)],2⟩) (fun x:Nat × List (List Int × Int)=>x.1≤w.troops.length∧IdxM w x.1 x.2) (fun x:Nat × List (List Int × Int)=>w.troops.length-x.1) ((0,[])) (⟨Nat.zero_le _,fun i=>rfl,fun j h=>absurd h (Nat.not_lt_zero _)⟩) (To.mk [0,1] rfl rfl (by decide) ?_ ?_) ?_
   ·simp(etaStruct := .none)only[push_cast,zab,seval]
   ·simp(etaStruct := .none)only[push_cast,zab,seval]
   rintro⟨k,es⟩ ⟨hk,hn⟩
   simp only at hk hn
   try refine xst ?_
   refine cI (fun h3 => ?_) fun h3 => ?_
   ·have hlt:k<w.troops.length:=by omega
    try refine xz2 (gd hlt) zav ?_
    refine⟨(k+1,zgh [(w.troops.getD k default).id] (k:Int) es),⟨by simp only;omega,hn.step hu hlt⟩,by simp only;omega,To.mk [0,1] rfl rfl (by decide) ?_ ?_⟩
    ·(try(refine xz2 (gd hlt) zav ?_;try exact xtI))
    ·(try(refine xz2 (gd hlt) zav ?_;try exact xtI))
   ·obtain rfl:k=w.troops.length:=by omega
    have hget:=hn.get ht
    try refine xst ?_
    refine zaw (fun x:Nat × List Int × List Bool=>⟨[(52,I .i64 x.1),(51,I .i64 l.length),(50,.c (.sl 2 (l.map zex))),(11,.own 3),(10,.own 2),(7,.map 1),(2,.ptr 0 0 0)],[(0,.blk 28 (zkg w)),(1,.mp false 1 es),(2,.row 3 1 (x.2.1.map zad)),(3,.row 4 1 (x.2.2.map zcu))],4⟩) (fun x:Nat × List Int × List Bool=>x.1≤l.length∧HitInv w (l.take x.1) x.2.1 x.2.2) (fun x:Nat × List Int × List Bool=>l.length-x.1) ((0,List.replicate w.troops.length 0,List.replicate w.troops.length false)) (⟨Nat.zero_le _,HitInv.start w⟩) (To.mk [0,1,2,3] rfl rfl (by decide) ?_ ?_) ?_
    ·simp(etaStruct := .none)only[push_cast,zab,seval,List.map_replicate,List.length_replicate,zad,zcu]
    ·simp(etaStruct := .none)only[push_cast,zab,seval]
    rintro⟨k,harm,done⟩ ⟨hk,hinv⟩
    simp only at hk hinv
    have hl1:=hinv.l1
    have hl2:=hinv.l2
    try refine xst ?_
    refine cI (fun h4 => ?_) fun h4 => ?_
    ·have hlt:k<l.length:=by omega
     obtain⟨b,hb⟩:∃b,b=l.getD k default:=⟨_,rfl⟩
     obtain⟨i,hi,gi,mi1,mi2⟩:=hget b.by_
     obtain⟨j,hj,gj,mj1,mj2⟩:=hget b.at_
     have hid:i<done.length:=by omega
     have hjh:j<harm.length:=by omega
     have htk:l.take (k+1)=l.take k ++ [b]:=by rw[zan _ _ hlt,hb]
     have hlow:=hinv.low j hj
     have hkh:=zls (w.troops.getD i default).kind
     rw[List.length_take]at hlow
     iterate 2(try simp(etaStruct := .none)only[push_cast,zab,seval,zaa _ _ _ hlt,←hb,zex,gi,gj,zaa _ _ _ hid,zaa _ _ _ hi,zaa _ _ _ hj,zaa _ _ _ hjh,zat,zcu,zad];try refine xsu ?_)
     refine gcP (fun hcc=>z6x w (w.troops.getD i default) (w.troops.getD j default) hl hw (zaz _ _ hi) (zaz _ _ hj)) ?_
     iterate 2(try simp(etaStruct := .none)only[push_cast,zab,seval,zaa _ _ _ hlt,←hb,zex,gi,gj,zaa _ _ _ hid,zaa _ _ _ hi,zaa _ _ _ hj,zaa _ _ _ hjh,zat,zcu,zad];try refine xsu ?_)
     (try(refine⟨by kernel_rfl,?_⟩))
     iterate 2(try simp(etaStruct := .none)only[push_cast,zab,seval,zaa _ _ _ hlt,←hb,zex,gi,gj,zaa _ _ _ hid,zaa _ _ _ hi,zaa _ _ _ hj,zaa _ _ _ hjh,zat,zcu,zad];try refine xsu ?_)
     refine cI (fun h5 => ?_) fun h5 => ?_
     ·have hnx:=hinv.skip hu b (yce hi mi1 mi2 mj1 mj2 h5)
      rw[←htk]at hnx
      iterate 2(try simp(etaStruct := .none)only[push_cast,zab,seval,zaa _ _ _ hlt,←hb,zex,gi,gj,zaa _ _ _ hid,zaa _ _ _ hi,zaa _ _ _ hj,zaa _ _ _ hjh,zat,zcu,zad];try refine xsu ?_)
      refine⟨(k+1,harm,done),⟨by simp only;omega,hnx⟩,by simp only;omega,To.mk [0,1,2,3] rfl rfl (by decide) ?_ ?_⟩
      ·(iterate 2((try simp(etaStruct := .none)only[push_cast,zab,seval,zaa _ _ _ hlt,←hb,zex,gi,gj,zaa _ _ _ hid,zaa _ _ _ hi,zaa _ _ _ hj,zaa _ _ _ hjh,zat,zcu,zad]);(try(refine xsu ?_;try exact xtI))))
      ·(iterate 2((try simp(etaStruct := .none)only[push_cast,zab,seval,zaa _ _ _ hlt,←hb,zex,gi,gj,zaa _ _ _ hid,zaa _ _ _ hi,zaa _ _ _ hj,zaa _ _ _ hjh,zat,zcu,zad]);(try(refine xsu ?_;try exact xtI))))
     ·obtain⟨y1,y2,y3⟩:=z69 mi1 mi2 mj1 mj2 h5.1.1.1 h5.1.1.2 h5.2
      have hnx:=hinv.go hu y1 hi hj y2 y3 h5.1.2
      rw[←htk]at hnx
      iterate 2(try simp(etaStruct := .none)only[push_cast,zab,seval,zaa _ _ _ hlt,←hb,zex,gi,gj,zaa _ _ _ hid,zaa _ _ _ hi,zaa _ _ _ hj,zaa _ _ _ hjh,zat,zcu,zad];try refine xsu ?_)
      refine caP (zg6 (w.troops.getD i default).kind) ?_
      iterate 2(try simp(etaStruct := .none)only[push_cast,zab,seval,zaa _ _ _ hlt,←hb,zex,gi,gj,zaa _ _ _ hid,zaa _ _ _ hi,zaa _ _ _ hj,zaa _ _ _ hjh,zat,zcu,zad];try refine xsu ?_)
      (try(refine⟨by kernel_rfl,?_⟩))
      iterate 2(try simp(etaStruct := .none)only[push_cast,zab,seval,zaa _ _ _ hlt,←hb,zex,gi,gj,zaa _ _ _ hid,zaa _ _ _ hi,zaa _ _ _ hj,zaa _ _ _ hjh,zat,zcu,zad];try refine xsu ?_)
      refine⟨(k+1,harm.set j (harm.getD j default+(zbe (w.troops.getD i default).kind).load),done.set i true),⟨by simp only;omega,hnx⟩,by simp only;omega,To.mk [0,1,2,3] rfl rfl (by decide) ?_ ?_⟩
      ·(iterate 2((try simp(etaStruct := .none)only[push_cast,zab,seval,List.map_set,zad,zcu]);(try(refine xsu ?_;try exact xtI))))
      ·(iterate 2((try simp(etaStruct := .none)only[push_cast,zab,seval,zaa _ _ _ hlt,←hb,zex,gi,gj,zaa _ _ _ hid,zaa _ _ _ hi,zaa _ _ _ hj,zaa _ _ _ hjh,zat,zcu,zad]);(try(refine xsu ?_;try exact xtI))))
    ·obtain rfl:k=l.length:=by omega
     rw[List.take_length]at hinv
     have e2:zhg w l=harm:=by unfold zhg;rw[if_pos e];exact(z6b hl1 hinv.val).symm
     try refine xst ?_
     (first|(refine zar rfl (Wk.of ?_);(try simp(etaStruct := .none)only[push_cast,zab,seval]);first|done|(simp[e,e2, *];done)|(simp_all[e,e2];done))|(refine zar rfl ?_;(try simp(etaStruct := .none)only[push_cast,zab,seval]);(try simp[e,e2, *]);(try exact wkc)))
theorem ycd (w:Wld) (l:List Blw) (hl:ze8 w) (hw:zam w=0) (hll:l.length≤200) (ht:w.troops = []):Spec Tryz.prog 88 [zcx w,.c (.sl 2 (l.map zex))] [] (.tup [.c (.sl 1 ((zhg w l).map zad)),I .i64 (zbj w l)]) []:=by
 have e:zbj w l=0:=by unfold zbj;rw[if_neg (by simp[hw]),if_neg (by omega)]
 have e2:zhg w l = []:=by unfold zhg zou;rw[if_pos e,ht];rfl
 obtain⟨wf,wb,ws,wm,wt,wn,wo⟩:=w
 simp only at ht
 subst ht
 obtain⟨w,hwd⟩:∃w:Wld,w=⟨wf,wb,ws,wm,[],wn,wo⟩:=⟨_,rfl⟩
 refine spB Tryz.func88 120 [.tmp 4,.tmp 5] Tryz.results88 ?_
 iterate 2(try simp(etaStruct := .none)only[push_cast,zab,seval,List.getD_nil];try refine xsu ?_)
 refine caP (zdw _ hl) ?_
 iterate 2(try simp(etaStruct := .none)only[push_cast,zab,seval,List.getD_nil];try refine xsu ?_)
 refine cI (fun h1 => ?_) fun h1 => ?_
 ·exact absurd hw h1
 ·iterate 2(try simp(etaStruct := .none)only[push_cast,zab,seval,List.getD_nil];try refine xsu ?_)
  refine cI (fun h2 => ?_) fun h2 => ?_
  ·omega
  ·iterate 2(try simp(etaStruct := .none)only[push_cast,zab,seval,List.getD_nil];try refine xsu ?_)
   refine zaw (fun _u:Unit=>⟨[(32,I .i64 0),(31,I .i64 0),(30,.c (.sl 7 [])),(7,.map 1),(2,.ptr 0 0 0),(1,.c (.sl 2 (l.map zex)))],[(0,.blk 28 (zkg ⟨wf,wb,ws,wm,[],wn,wo⟩)),(1,.mp false 1 [])],2⟩) (fun _u:Unit=>Tr) (fun _u:Unit=>0) (()) (trI) (To.mk [0,1] rfl rfl (by decide) ?_ ?_) ?_
   ·simp(etaStruct := .none)only[push_cast,zab,seval]
   ·simp(etaStruct := .none)only[push_cast,zab,seval]
   rintro _ _
   iterate 2(try simp(etaStruct := .none)only[push_cast,zab,seval,List.getD_nil];try refine xsu ?_)
   refine cI (fun h3 => ?_) fun h3 => ?_
   ·simp at h3
   ·iterate 2(try simp(etaStruct := .none)only[push_cast,zab,seval,List.getD_nil];try refine xsu ?_)
    refine zaw (fun k:Nat=>⟨[(52,I .i64 k),(51,I .i64 l.length),(50,.c (.sl 2 (l.map zex))),(11,.own 3),(10,.own 2),(7,.map 1),(2,.ptr 0 0 0)],[(0,.blk 28 (zkg ⟨wf,wb,ws,wm,[],wn,wo⟩)),(1,.mp false 1 []),(2,.row 3 1 []),(3,.row 4 1 [])],4⟩) (fun k:Nat=>k≤l.length) (fun k:Nat=>l.length-k) (0) (Nat.zero_le _) (To.mk [0,1,2,3] rfl rfl (by decide) ?_ ?_) ?_
    ·simp(etaStruct := .none)only[push_cast,zab,seval]
    ·simp(etaStruct := .none)only[push_cast,zab,seval]
    rintro k hk
    iterate 2(try simp(etaStruct := .none)only[push_cast,zab,seval,List.getD_nil];try refine xsu ?_)
    refine cI (fun h4 => ?_) fun h4 => ?_
    ·have hlt:k<l.length:=by omega
     iterate 2(try simp(etaStruct := .none)only[push_cast,zab,seval,List.getD_nil,zaa _ _ _ hlt,zex];try refine xsu ?_)
     repeat(with_reducible refine And.intro ?_ ?_;· (simp[zoe];done))
     refine z2q ?_ ?_
     ·simp[zoe]
     iterate 2(try simp(etaStruct := .none)only[push_cast,zab,seval,List.getD_nil,zaa _ _ _ hlt,zex];try refine xsu ?_)
     (try(refine⟨by kernel_rfl,?_⟩))
     iterate 2(try simp(etaStruct := .none)only[push_cast,zab,seval,List.getD_nil,zaa _ _ _ hlt,zex];try refine xsu ?_)
     refine cI (fun h5 => ?_) fun h5 => ?_
     ·iterate 2(try simp(etaStruct := .none)only[push_cast,zab,seval,List.getD_nil,zaa _ _ _ hlt,zex];try refine xsu ?_)
      refine⟨k+1,by omega,by omega,To.mk [0,1,2,3] rfl rfl (by decide) ?_ ?_⟩
      ·(iterate 2((try simp(etaStruct := .none)only[push_cast,zab,seval,List.getD_nil,zaa _ _ _ hlt,zex]);(try(refine xsu ?_;try exact xtI))))
      ·(iterate 2((try simp(etaStruct := .none)only[push_cast,zab,seval,List.getD_nil,zaa _ _ _ hlt,zex]);(try(refine xsu ?_;try exact xtI))))
     ·simp[zoe]at h5
    ·iterate 2(try simp(etaStruct := .none)only[push_cast,zab,seval,List.getD_nil];try refine xsu ?_)
     (first|(refine zar rfl (Wk.of ?_);(try simp(etaStruct := .none)only[push_cast,zab,seval]);first|done|(simp[e,e2, *];done)|(simp_all[e,e2];done))|(refine zar rfl ?_;(try simp(etaStruct := .none)only[push_cast,zab,seval]);(try simp[e,e2, *]);(try exact wkc)))
theorem yiw (w:Wld) (l:List Blw) (id:Int) (t:Trp):0≤zvy w l id t∧zvy w l id t≤4:=by
 have:=zls t.kind
 unfold zvy
 split
 ·split<;>omega
 ·omega
theorem ydl (w:Wld) (l:List Blw) (id:Int):∀ts:List Trp,0≤z3r (ts.map (zvy w l id))∧z3r (ts.map (zvy w l id))≤4*ts.length
 | []=>by simp[z3r]
 | t::r=>by
  have h1:=ydl w l id r
  have h2:=yiw w l id t
  simp only[z3r,List.map_cons,List.sum_cons,List.length_cons]at *
  omega
theorem zvz (w:Wld) (l:List Blw) (hl:ze8 w) (hll:l.length≤9223372036854775807):Spec Tryz.prog 88 [zcx w,.c (.sl 2 (l.map zex))] [] (.tup [.c (.sl 1 ((zhg w l).map zad)),I .i64 (zbj w l)]) []:=by
 by_cases h:zbj w l=0
 ·have h1:zam w=0:=by unfold zbj at h;split at h;rename_i h1;exact absurd h h1;rename_i h1;simpa using h1
  have h2:l.length≤200:=by unfold zbj at h;rw[if_neg (by simp[h1])]at h;split at h;simp at h;omega
  rcases Nat.eq_zero_or_pos w.troops.length with h3|h3
  ·exact ycd w l hl h1 h2 (List.eq_nil_of_length_eq_zero h3)
  ·exact ycc w l hl h1 h2 h3
 ·exact ycb w l hl hll h
theorem yfb (w:Wld) (hw:zam w=0):Spec Tryz.prog 89 [zcx w] [] (zcx w) []:=by
 obtain⟨w1,w2,w3,w4,w5⟩:=zdd hw
 obtain⟨v1,v2,v3,v4⟩:=zkf w4
 obtain⟨⟨f1,f2⟩,⟨f3,f4⟩,f5,f6⟩:=zbc w1
 have hm:w.f.w*w.f.h≤40*40:=Int.mul_le_mul f2 f4 (by omega) (by omega)
 refine spB Tryz.func89 26 [.cell 2 28] Tryz.results89 ?_
 try refine xst ?_
 refine caP (zfh w.f.p (by omega)) ?_
 try refine xst ?_
 refine caP (zo7 w.bases (by omega)) ?_
 try refine xst ?_
 refine caP (zfh w.stocks (by omega)) ?_
 try refine xst ?_
 (try(refine⟨by kernel_rfl,?_⟩))
 try refine xst ?_
 refine caP (zfh w.mines (by omega)) ?_
 try refine xst ?_
 refine caP (zua w.troops (by omega)) ?_
 try refine xst ?_
 (try(refine⟨by kernel_rfl,?_⟩))
 try refine xst ?_
 exact xrz rfl
def yc6:Wld:=⟨⟨0,0,[]⟩,[],[],[],[],0,0⟩
def zq0 (w:Wld) (l:List Blw) (k:Nat):List Trp:=((w.troops.take k).map (zdr w l)).filter fun t=>decide (0<t.life)
def zov (w:Wld) (l:List Blw) (k:Nat):List Int:=(((w.troops.take k).map (zdr w l)).filter fun t => !decide (0<t.life)).map (·.id)
theorem zyb (w:Wld) (l:List Blw) {k:Nat} (h:k<w.troops.length):zq0 w l (k+1)=zq0 w l k++(if 0<(zdr w l (w.troops.getD k default)).life then [zdr w l (w.troops.getD k default)]else []):=by
 unfold zq0
 rw[zan _ _ h,List.map_append,List.filter_append,List.map_cons,List.map_nil,List.filter_cons,List.filter_nil]
 simp only[decide_eq_true_eq]
theorem zyg (w:Wld) (l:List Blw) {k:Nat} (h:k<w.troops.length):zov w l (k+1)=zov w l k++(if 0<(zdr w l (w.troops.getD k default)).life then []else [(w.troops.getD k default).id]):=by
 unfold zov
 rw[zan _ _ h,List.map_append,List.filter_append,List.map_cons,List.map_nil,List.filter_cons,List.filter_nil,List.map_append]
 by_cases h2:0<(zdr w l (w.troops.getD k default)).life
 ·rw[if_pos h2,decide_eq_true h2];simp
 ·rw[if_neg h2,decide_eq_false h2];simp[zdr]
theorem z1o (w:Wld) (l:List Blw) (k:Nat):(zq0 w l k).length≤k:=by
 have h1:=List.length_filter_le (fun t:Trp=>decide (0<t.life)) ((w.troops.take k).map (zdr w l))
 rw[List.length_map,List.length_take]at h1
 exact Nat.le_trans h1 (Nat.min_le_left _ _)
theorem z2f (w:Wld) (l:List Blw) (k:Nat):(zov w l k).length≤k:=by
 unfold zov
 rw[List.length_map]
 have h1:=List.length_filter_le (fun t:Trp => !decide (0<t.life)) ((w.troops.take k).map (zdr w l))
 rw[List.length_map,List.length_take]at h1
 exact Nat.le_trans h1 (Nat.min_le_left _ _)
theorem z1p (w:Wld) (l:List Blw):zq0 w l w.troops.length=zh6 w l:=by unfold zq0;rw[List.take_length];rfl
theorem z2g (w:Wld) (l:List Blw):zov w l w.troops.length=z6c w l:=by unfold zov;rw[List.take_length];rfl
theorem z2b (w:Wld) (l:List Blw) (id:Int):0≤zft w l id∧zft w l id≤4*w.troops.length:=ydl w l id w.troops
def zep (w:Wld) (l:List Blw):Wld:=if zbj w l=0 then zeo w l else yc6
def zra (w:Wld) (l:List Blw):List Int:=if zbj w l=0 then z6c w l else []
theorem ye1 {w:Wld} (hw:zam w=0) {k:Nat} (h:k<w.troops.length):1≤(w.troops.getD k default).life∧(w.troops.getD k default).life≤20:=by
 have h1:=(ze9 hw h).1
 have:=h1.life
 have k1:(zbe 1).life=10:=rfl
 have k2:(zbe 2).life=20:=rfl
 rcases h1.kind with e|e
 ·rw[e,k1]at this;omega
 ·rw[e,k2]at this;omega
theorem z14 (w:Wld) (l:List Blw) (hl:ze8 w) (hll:l.length≤9223372036854775807) (h:zbj w l≠0):Spec Tryz.prog 47 [zcx w,.c (.sl 2 (l.map zex))] [] (.tup [zcx (zep w l),.c (.sl 1 ((zra w l).map zad)),I .i64 (zbj w l)]) []:=by
 have e1:zep w l=yc6:=by unfold zep;rw[if_neg h]
 have e2:zra w l = []:=by unfold zra;rw[if_neg h]
 refine spB Tryz.func47 62 [.cell 4 28,.tmp 5,.tmp 6] Tryz.results47 ?_
 try refine xst ?_
 refine caP (zvz w l hl hll) ?_
 try refine xst ?_
 refine cI (fun h1 => ?_) fun h1 => ?_
 ·try refine xst ?_
  (first|(refine zar rfl (Wk.of ?_);(try simp(etaStruct := .none)only[push_cast,zab,seval]);first|done|(simp[e1,e2,yc6, *];done)|(simp_all[e1,e2,yc6];done))|(refine zar rfl ?_;(try simp(etaStruct := .none)only[push_cast,zab,seval]);(try simp[e1,e2,yc6, *]);(try exact wkc)))
 ·exact absurd h1 h
theorem zq7 (w:Wld) (l:List Blw) (hl:ze8 w) (hll:l.length≤9223372036854775807) (h:zbj w l=0):Spec Tryz.prog 47 [zcx w,.c (.sl 2 (l.map zex))] [] (.tup [zcx (zep w l),.c (.sl 1 ((zra w l).map zad)),I .i64 (zbj w l)]) []:=by
 have hw:zam w=0:=by unfold zbj at h;split at h;rename_i h1;exact absurd h h1;rename_i h1;simpa using h1
 have w3:=(zdd hw).2.2.1
 have hr:zhg w l=zou w l:=by unfold zhg;rw[if_pos h]
 have hrl:(zou w l).length=w.troops.length:=by unfold zou;rw[List.length_map]
 refine spB Tryz.func47 62 [.cell 4 28,.tmp 5,.tmp 6] Tryz.results47 ?_
 try refine xst ?_
 refine caP (zvz w l hl hll) ?_
 try refine xst ?_
 refine cI (fun h1 => ?_) fun h1 => ?_
 ·exact absurd h h1
 ·try refine xst ?_
  refine caP (yfb w hw) ?_
  try refine xst ?_
  refine zaw (fun k:Nat=>⟨[(32,I .i64 k),(31,I .i64 w.troops.length),(30,.c (.sl 7 (w.troops.map zat))),(10,.own 2),(9,.own 3),(7,.c (.sl 1 ((zhg w l).map zad))),(4,.ptr 1 0 0),(2,.ptr 0 0 0)],[(0,.blk 28 (zkg w)),(1,.blk 28 [I .i64 0,I .i64 0,.c (.v (.slice none 0 0)),.c (.v (.slice none 0 0)),.c (.v (.slice none 0 0)),.c (.v (.slice none 0 0)),.c (.v (.slice none 0 0)),I .i64 0,I .i64 0]),(2,.row 108 7 ((zq0 w l k).map zat)),(3,.row 3 1 ((zov w l k).map zad))],4⟩) (fun k:Nat=>k≤w.troops.length) (fun k:Nat=>w.troops.length-k) (0) (Nat.zero_le _) ((To.nil 9 3 1 rfl).trans (To.mk [0,1,2,3] rfl rfl (by decide) ?_ ?_)) ?_
  ·simp(etaStruct := .none)only[push_cast,zab,seval,zq0,zov,List.take_zero,List.map_nil,List.filter_nil]
  ·simp(etaStruct := .none)only[push_cast,zab,seval]
  rintro k hk
  try refine xst ?_
  refine cI (fun h2 => ?_) fun h2 => ?_
  ·have hlt:k<w.troops.length:=by omega
   have hrk:k<(zhg w l).length:=by rw[hr,hrl];exact hlt
   have hrv:(zhg w l).getD k default=zft w l (w.troops.getD k default).id:=by
    rw[hr,zac _ _ (by rw[hrl];exact hlt)]
    simp only[zou,List.getElem_map];rw[zac _ _ hlt]
   have hb:=z2b w l (w.troops.getD k default).id
   have hlb:=ye1 hw hlt
   have st1:=zyb w l hlt
   have st2:=zyg w l hlt
   have ll1:=z1o w l k
   have ll2:=z2f w l k
   have hwl:(zdr w l (w.troops.getD k default)).life=(w.troops.getD k default).life-zft w l (w.troops.getD k default).id:=rfl
   try refine xz5 (gd hlt) zav (gd hrk) hrv zaq ?_
   (try(refine⟨by kernel_rfl,?_⟩))
   try refine xz5 (gd hlt) zav (gd hrk) hrv zaq ?_
   refine cI (fun h3 => ?_) fun h3 => ?_
   ·rw[if_pos (by rw[hwl];exact h3)]at st1 st2
    rw[List.append_nil]at st2
    try refine xz5 (gd hlt) zav (gd hrk) hrv zaq ?_
    refine⟨k+1,by omega,by omega,To.mk [0,1,42,3] rfl rfl (by decide) ?_ ?_⟩
    ·(iterate 2((try simp(etaStruct := .none)only[push_cast,zab,seval,st1,st2,List.map_append,zat,zdr]);(try(refine xsu ?_;try exact xtI))))
    ·(try(refine xz5 (gd hlt) zav (gd hrk) hrv zaq ?_;try exact xtI))
   ·rw[if_neg (by rw[hwl];omega)]at st1 st2
    rw[List.append_nil]at st1
    try refine xz5 (gd hlt) zav (gd hrk) hrv zaq ?_
    refine⟨k+1,by omega,by omega,To.mk [0,1,2,42] rfl rfl (by decide) ?_ ?_⟩
    ·(iterate 2((try simp(etaStruct := .none)only[push_cast,zab,seval,st1,st2,List.map_append,zad]);(try(refine xsu ?_;try exact xtI))))
    ·(try(refine xz5 (gd hlt) zav (gd hrk) hrv zaq ?_;try exact xtI))
  ·obtain rfl:k=w.troops.length:=by omega
   have e1:zep w l=zeo w l:=by unfold zep;rw[if_pos h]
   have e2:zra w l=z6c w l:=by unfold zra;rw[if_pos h]
   rw[z1p,z2g,e1,e2]
   try refine xst ?_
   (first|(refine zar rfl (Wk.of ?_);(try simp(etaStruct := .none)only[push_cast,zab,seval]);first|done|(simp[zeo,h, *];done)|(simp_all[zeo,h];done))|(refine zar rfl ?_;(try simp(etaStruct := .none)only[push_cast,zab,seval]);(try simp[zeo,h, *]);(try exact wkc)))
end Go.Proofs.YtmjbgbmegbkmhaaGreat
namespace Go.Proofs.YtmjbgbmegbkmhaaGreat
set_option linter.all false
open Go.RowKit
set_option maxRecDepth 100000
def zq5 (id:Int) (t:Trp):Bool:=decide (t.id=id)
def ycy (a b:Cel):Bool:=zai b.x (a.x-1) (a.x+1)&&zai b.y (a.y-1) (a.y+1)
def zbt (t:Trp) (n:Int):Trp:={ t with load:=n }
def zli (w:Wld) (i m:Nat):Wld:={ w with mines:=w.mines.set m (w.mines.getD m default-1),troops:=w.troops.set i (zbt (w.troops.getD i default) ((w.troops.getD i default).load+1)) }
def ze4 (w:Wld) (d:Ded) (i:Nat):Bool:=decide ((w.troops.getD i default).kind=1)&&decide ((w.troops.getD i default).load<5)&&ycy (w.troops.getD i default).c d.c&&inF w.f d.c&&decide (0<w.mines.getD (zal w.f d.c) default)
def zgv (w:Wld) (i:Nat):Int:=min (w.troops.getD i default).load (1000000-w.stocks.getD (w.troops.getD i default).owner.toNat default)
def zem (w:Wld) (i:Nat):Wld:={ w with stocks:=w.stocks.set (w.troops.getD i default).owner.toNat (w.stocks.getD (w.troops.getD i default).owner.toNat default+zgv w i),troops:=w.troops.set i (zbt (w.troops.getD i default) ((w.troops.getD i default).load-zgv w i)) }
def zni (w:Wld) (i:Nat):Bool:=ycy (w.bases.getD (w.troops.getD i default).owner.toNat default) (w.troops.getD i default).c
def zdm (b:Cel):List Cel := [b,⟨b.x-1,b.y-1⟩,⟨b.x,b.y-1⟩,⟨b.x+1,b.y-1⟩,⟨b.x-1,b.y⟩,b,⟨b.x+1,b.y⟩,⟨b.x-1,b.y+1⟩,⟨b.x,b.y+1⟩,⟨b.x+1,b.y+1⟩]
def zre (w:Wld) (c:Cel):Bool:=zb2 w.f c && !(w.troops.any fun t=>decide (t.c=c))
def ztg (w:Wld) (b:Cel):Option Cel:=(zdm b).find? (zre w)
def zlw (w:Wld) (d:Ded):Bool:=decide (0≤d.who)&&decide (d.who<w.bases.length)&&(decide (d.what=1)||decide (d.what=2))&&decide ((zbe d.what).price≤w.stocks.getD d.who.toNat default)&&decide (w.troops.length<100)&&decide (w.next<1000000)
def zdu (w:Wld) (d:Ded) (c:Cel):Wld:={ w with troops:=w.troops ++ [⟨w.next,d.who,d.what,c,(zbe d.what).life,0⟩],next:=w.next+1,stocks:=w.stocks.set d.who.toNat (w.stocks.getD d.who.toNat default-(zbe d.what).price) }
def zfu (w:Wld) (d:Ded):Wld × Bool :=
 if d.kind=1 then match w.troops.findIdx? (zq5 d.who)with
  | some i=>if ze4 w d i then (zli w i (zal w.f d.c),true)else (w,false)
  | none=>(w,false)
 else if d.kind=2 then match w.troops.findIdx? (zq5 d.who)with
  | some i=>if zni w i then (zem w i,decide (0<zgv w i))else (w,false)
  | none=>(w,false)
 else if d.kind=3 then (if zlw w d then match ztg w (w.bases.getD d.who.toNat default)with
  | some c=>(zdu w d c,true)
  | none=>(w,false)
  else (w,false))
 else (w,false)
theorem zr3 {w:Wld} {t:Trp} {n:Int} (h:TrpOk w t) (hn:0≤n∧n≤5*(2-t.kind)):TrpOk w (zbt t n):=zhq h.kind h.id h.owner h.at_ h.life hn
theorem zu6 {w:Wld} (h:Right w) {i:Nat} (hi:i<w.troops.length):∃o:Nat,(w.troops.getD i default).owner=(o:Int)∧o<w.bases.length∧o<w.stocks.length:=by
 have:=(h.trp i hi).owner
 have hs:=h.sl
 refine⟨(w.troops.getD i default).owner.toNat,by omega,by omega,by omega⟩
theorem z8d {w:Wld} (h:Right w) {c:Cel} (hc:inF w.f c=true):zal w.f c<w.mines.length∧c.y*w.f.w+c.x=((zal w.f c:Nat):Int)∧0≤c.y*w.f.w∧c.y*w.f.w≤1600:=by
 obtain⟨i1,i2,i3,i4,i5⟩:=za5 h.f hc
 have:=h.ml
 unfold zal;omega
theorem zmz {w:Wld} (h:Right w) {i:Nat} (hi:i<w.troops.length) {n:Int} (hn:0≤n∧n≤5*(2-(w.troops.getD i default).kind)) {st mi:List Int} (hs:st.length=w.stocks.length) (hm:mi.length=w.mines.length) (hs2:∀j,j<st.length→0≤st.getD j default∧st.getD j default≤1000000) (hm2:∀j,j<mi.length→(0≤mi.getD j default∧mi.getD j default≤1000000)∧(mi.getD j default=0∨w.f.p.getD j default=3)) :
 Right { w with stocks:=st,mines:=mi,troops:=w.troops.set i (zbt (w.troops.getD i default) n) }:=by
 have G:=fun p=>zic (zbt (w.troops.getD i default) n) p hi
 refine⟨h.f,h.nb,by simpa using h.nt,by rw[hs];exact h.sl,by rw[hm];exact h.ml,h.nx,h.nw,fun j hj => ?_,hm2,fun k hk => ?_,fun j k hjk hk => ?_⟩
 ·obtain⟨a1,_,a3⟩:=h.base j hj
  exact⟨a1,hs2 j (by rw[hs,h.sl];exact hj),a3⟩
 ·have hk':k<w.troops.length:=by simpa using hk
  have e:∀t,TrpOk w t→TrpOk { w with stocks:=st,mines:=mi,troops:=w.troops.set i (zbt (w.troops.getD i default) n) } t:=fun t ht=>⟨ht.kind,ht.id,ht.owner,ht.at_,ht.x,ht.y,ht.life,ht.load⟩
  simp only[G]
  split
  ·exact e _ (zr3 (h.trp i hi) hn)
  ·exact e _ (h.trp k hk')
 ·have hk':k<w.troops.length:=by simpa using hk
  have:=h.ord j k hjk hk'
  simp only[G]
  have f1:∀m,(if m=i then zbt (w.troops.getD i default) n else w.troops.getD m default).id=(w.troops.getD m default).id∧(if m=i then zbt (w.troops.getD i default) n else w.troops.getD m default).c=(w.troops.getD m default).c:=fun m=>by
   split
   ·rename_i e;subst e;exact⟨rfl,rfl⟩
   ·exact⟨rfl,rfl⟩
  rw[(f1 j).1,(f1 k).1,(f1 j).2,(f1 k).2];exact this
theorem zxn {w:Wld} (h:Right w) {i:Nat} (hi:i<w.troops.length) {d:Ded} (ho:ze4 w d i=true):Right (zli w i (zal w.f d.c)):=by
 unfold ze4 at ho
 simp only[Bool.and_eq_true,decide_eq_true_eq]at ho
 obtain⟨⟨⟨⟨o1,o2⟩,_⟩,o4⟩,o5⟩:=ho
 obtain⟨m1,_⟩:=z8d h o4
 have hl:=(h.trp i hi).load
 have G:=fun p=>zic (w.mines.getD (zal w.f d.c) default-1) p m1
 refine zmz h hi (by omega) rfl (by simp) (fun j hj=>(h.base j (by rw[←h.sl];exact hj)).2.1) (fun j hj => ?_)
 have hj':j<w.mines.length:=by simpa using hj
 rw[G]
 split
 ·rename_i e;subst e
  obtain⟨a1,a2⟩:=h.mine _ hj'
  exact⟨by omega,by rcases a2 with a2|a2;omega;exact .inr a2⟩
 ·exact h.mine j hj'
theorem ztm {w:Wld} (h:Right w) {i:Nat} (hi:i<w.troops.length):0≤zgv w i∧zgv w i≤(w.troops.getD i default).load∧w.stocks.getD (w.troops.getD i default).owner.toNat default+zgv w i≤1000000∧0≤w.stocks.getD (w.troops.getD i default).owner.toNat default:=by
 obtain⟨o,e,ho,hs⟩:=zu6 h hi
 have hl:=(h.trp i hi).load
 have hb:=(h.base o ho).2.1
 have e2:(w.troops.getD i default).owner.toNat=o:=by omega
 unfold zgv
 rw[e2];omega
theorem zxp {w:Wld} (h:Right w) {i:Nat} (hi:i<w.troops.length):Right (zem w i):=by
 obtain⟨o,e,ho,hs⟩:=zu6 h hi
 have e2:(w.troops.getD i default).owner.toNat=o:=by omega
 have hl:=(h.trp i hi).load
 have hn:=ztm h hi
 unfold zem
 rw[e2]at hn ⊢
 have G:=fun p=>zic (w.stocks.getD o default+zgv w i) p hs
 refine zmz h hi (by omega) (by simp) rfl (fun j hj => ?_) (fun j hj=>h.mine j hj)
 rw[G]
 split
 ·omega
 ·exact(h.base j (by rw[←h.sl];simpa using hj)).2.1
theorem hireOk_iff {w:Wld} {d:Ded} : zlw w d=true↔((((0≤d.who∧d.who<w.bases.length)∧(d.what=1∨d.what=2))∧(zbe d.what).price≤w.stocks.getD d.who.toNat default)∧w.troops.length<100)∧w.next<1000000:=by
 unfold zlw
 simp only[Bool.and_eq_true,Bool.or_eq_true,decide_eq_true_eq]
theorem zzw {α : Type} [Inhabited α] (l:List α) (x : α) (k:Nat):(l ++ [x]).getD k default=if k<l.length then l.getD k default else if k=l.length then x else default:=by
 by_cases h:k<l.length
 ·rw[if_pos h,zlx _ _ _ h]
 ·rw[if_neg h]
  by_cases h2:k=l.length
  ·subst h2;rw[if_pos rfl,zac _ _ (by simp)];simp
  ·rw[if_neg h2];simp only[List.getD_eq_getElem?_getD];rw[List.getElem?_eq_none (by simp;omega)];rfl
theorem zxo {w:Wld} (h:Right w) {d:Ded} (ho:zlw w d=true) {c:Cel} (hc:zre w c=true):Right (zdu w d c):=by
 obtain⟨⟨⟨⟨⟨o1,o2⟩,o3⟩,o4⟩,o5⟩,o6⟩:=hireOk_iff.1 ho
 unfold zre at hc
 simp only[Bool.and_eq_true,Bool.not_eq_true',List.any_eq_false,decide_eq_true_eq]at hc
 obtain⟨c1,c2⟩:=hc
 have hs:d.who.toNat<w.stocks.length:=by rw[h.sl];omega
 have G:=fun p=>zic (w.stocks.getD d.who.toNat default-(zbe d.what).price) p hs
 have hp:0≤(zbe d.what).price:=by rcases o3 with e|e<;>rw[e]<;>decide
 have hx:=h.nx
 have T:=fun k=>zzw w.troops (⟨w.next,d.who,d.what,c,(zbe d.what).life,0⟩:Trp) k
 refine⟨h.f,h.nb,by simp only[zdu,List.length_append,List.length_cons,List.length_nil];omega,by simp only[zdu,List.length_set];exact h.sl,h.ml,by simp only[zdu];omega,h.nw,fun j hj => ?_,h.mine,fun k hk => ?_,fun j k hjk hk => ?_⟩
 ·obtain⟨a1,a2,a3⟩:=h.base j hj
  refine⟨a1,?_,a3⟩
  simp only[zdu,G]
  split
  ·rename_i e;subst e;omega
  ·exact a2
 ·simp only[zdu,List.length_append,List.length_cons,List.length_nil]at hk
  simp only[zdu,T]
  split
  ·rename_i hk2
   have ok:=h.trp k hk2
   exact zhq ok.kind ⟨ok.id.1,by have:=ok.id.2;simp only;omega⟩ ok.owner ok.at_ ok.life ok.load
  ·rw[if_pos (by omega)]
   refine zhq o3 ⟨hx.1,by simp only;omega⟩ ⟨o1,by simp only;omega⟩ c1 ⟨?_,Int.le_refl _⟩ ⟨Int.le_refl _,?_⟩
   ·rcases o3 with e|e<;>simp only<;>rw[e]<;>decide
   ·simp only;omega
 ·simp only[zdu,List.length_append,List.length_cons,List.length_nil]at hk
  simp only[zdu,T]
  rw[if_pos (show j<w.troops.length by omega)]
  split
  ·rename_i hk2
   exact h.ord j k hjk hk2
  ·have hj:j<w.troops.length:=by omega
   rw[if_pos (by omega)]
   have ok:=(h.trp j hj).id
   refine⟨by simp only;omega,fun e => ?_⟩
   exact c2 _ (zaz _ _ hj) e
theorem zif {w:Wld} {id:Int} {i:Nat} (h:w.troops.findIdx? (zq5 id)=some i):i<w.troops.length:=by
 obtain⟨hi,_⟩:=List.findIdx?_eq_some_iff_getElem.1 h
 exact hi
theorem zxq {w:Wld} (h:Right w) (d:Ded):Right (zfu w d).1:=by
 unfold zfu
 split
 ·split
  ·rename_i i hi
   split
   ·rename_i ho;exact zxn h (zif hi) ho
   ·exact h
  ·exact h
 ·split
  ·split
   ·rename_i i hi
    split
    ·exact zxp h (zif hi)
    ·exact h
   ·exact h
  ·split
   ·split
    ·rename_i ho
     split
     ·rename_i c hc;exact zxo h ho (List.find?_some hc)
     ·exact h
    ·exact h
   ·exact h
def za9 (w:Wld):List Ded→Wld × List Bool
 | []=>(w,[])
 | d::r=>((za9 (zfu w d).1 r).1,(zfu w d).2::(za9 (zfu w d).1 r).2)
theorem ztn (l:List Ded) (d:Ded):∀w,za9 w (l ++ [d])=((zfu (za9 w l).1 d).1,(za9 w l).2 ++ [(zfu (za9 w l).1 d).2]):=by
 induction l with
 | nil=>intro w;rfl
 | cons a r ih=>intro w;simp only[List.cons_append,za9];rw[ih]
theorem zk5 (l:List Ded):∀ {w:Wld},Right w→Right (za9 w l).1:=by
 induction l with
 | nil=>intro w h;exact h
 | cons a r ih=>intro w h;exact ih (zxq h a)
theorem zyq (l:List Ded):∀w,(za9 w l).2.length=l.length:=by
 induction l with
 | nil=>intro w;rfl
 | cons a r ih=>intro w;simp only[za9,List.length_cons,ih]
end Go.Proofs.YtmjbgbmegbkmhaaGreat
namespace Go.Proofs.YtmjbgbmegbkmhaaGreat
set_option linter.all false
open Go.RowKit
set_option maxRecDepth 100000
set_option maxHeartbeats 1000000
theorem z6d {α : Type} (l:List α) (i:Nat) (d : α) (h:i<l.length):l.getD i d=l[i]:=by simp[h]
abbrev zpg (d:Ded):AV := .agg [I .i64 d.kind,I .i64 d.who,I .i64 d.c.x,I .i64 d.c.y,I .i64 d.what]
abbrev ycs (w:Wld) (i j k:Nat):List AV := [I .i64 w.f.w,I .i64 w.f.h,.c (.sl 1 (w.f.p.map zad)),.c (.sl 2 (w.bases.map za2)),.own i,.own j,.own k,I .i64 w.next,I .i64 w.now]
abbrev stR (w:Wld):Chunk := .row 3 1 (w.stocks.map zad)
abbrev miR (w:Wld):Chunk := .row 3 1 (w.mines.map zad)
abbrev trR (w:Wld):Chunk := .row 108 7 (w.troops.map zat)
abbrev zfo (w:Wld):List Chunk := [.blk 200 (ycs w 1 2 3),stR w,miR w,trR w]
theorem yfh (id:Int) (t:Trp):Spec Tryz.prog 182 ([] ++ [z7r t] ++ [.fel 1 [[pI id]] 0 0]) [] (B (zq5 id t)) []:=by
 refine spB Tryz.func182 8 [.tmp 3] Tryz.results182 ?_
 try refine xst ?_
 (first|(refine zar rfl (Wk.of ?_);(try simp(etaStruct := .none)only[push_cast,zab,seval]);first|done|(simp[zq5, *];done)|(simp_all[zq5];done))|(refine zar rfl ?_;(try simp(etaStruct := .none)only[push_cast,zab,seval]);(try simp[zq5, *]);(try exact wkc)))
theorem zv4 (w:Wld) (id:Int) (hw:Right w) (h:w.troops.findIdx? (zq5 id)=none):Spec Tryz.prog 165 [.ptr 0 0 0,I .i64 id] (zfo w) (.c (.v (.pointer none))) (zfo w):=by
 have hz:zh9 (zq5 id) w.troops = -1:=by unfold zh9;rw[h]
 have hnt:=hw.nt
 refine spB Tryz.func165 22 [.tmp 4] Tryz.results165 ?_
 try refine xst ?_
 refine zcl (zt9 _ [] [.fel 1 [[pI id]] 0 0] w.troops (zq5 id) (by omega) (fun t _=>yfh id t) (fun _=>rfl) (fun _=>rfl)) (WkL.refl _) rfl ?_
 rw[hz]
 try refine xst ?_
 refine cI (fun h1 => ?_) fun h1 => ?_
 ·try refine xst ?_
  refine zcc [0,1,2,3] rfl rfl (by decide) ⟨?_,?_,?_,?_,trivial⟩ trivial ?_<;>simp(etaStruct := .none)only[push_cast,zab,seval]
 ·exact absurd h1 (by decide)
theorem zv3 (w:Wld) (id:Int) (i:Nat) (hw:Right w) (h:w.troops.findIdx? (zq5 id)=some i):Spec Tryz.prog 165 [.ptr 0 0 0,I .i64 id] (zfo w) (.ptr 3 i 0) (zfo w):=by
 have hz:zh9 (zq5 id) w.troops=(i:Int):=by unfold zh9;rw[h]
 have hnt:=hw.nt
 have hi:=zif h
 refine spB Tryz.func165 22 [.tmp 4] Tryz.results165 ?_
 try refine xst ?_
 refine zcl (zt9 _ [] [.fel 1 [[pI id]] 0 0] w.troops (zq5 id) (by omega) (fun t _=>yfh id t) (fun _=>rfl) (fun _=>rfl)) (WkL.refl _) rfl ?_
 rw[hz]
 try refine xst ?_
 refine cI (fun h1 => ?_) fun h1 => ?_
 ·omega
 ·try refine xst ?_
  refine zcc [0,1,2,3] rfl rfl (by decide) ⟨?_,?_,?_,?_,trivial⟩ trivial ?_<;>simp(etaStruct := .none)only[push_cast,zab,seval]
theorem z8e (a b:Cel) (ha : -1000000≤a.x∧a.x≤1000000 ∧ -1000000≤a.y∧a.y≤1000000):Spec Tryz.prog 166 [zgw a,zgw b] [] (B (ycy a b)) []:=by
 refine spB Tryz.func166 35 [.tmp 4] Tryz.results166 ?_
 try refine xst ?_
 (first|(refine zar rfl (Wk.of ?_);(try simp(etaStruct := .none)only[push_cast,zab,seval]);first|done|(simp[ycy,zai,Bool.and_assoc, *];done)|(simp_all[ycy,zai,Bool.and_assoc];done))|(refine zar rfl ?_;(try simp(etaStruct := .none)only[push_cast,zab,seval]);(try simp[ycy,zai,Bool.and_assoc, *]);(try exact wkc)))
theorem zyh (w:Wld) (d:Ded) (hw:Right w) (h:w.troops.findIdx? (zq5 d.who)=none):Spec Tryz.prog 135 [.ptr 0 0 0,zpg d] (zfo w) (B false) (zfo w):=by
 refine spB Tryz.func135 88 [.tmp 4] Tryz.results135 ?_
 try refine xst ?_
 refine caM [0,1,2,3] (zv4 w d.who hw h) ?_
 try refine xst ?_
 refine z2q ?_ ?_
 ·rfl
 try refine xst ?_
 (try(refine⟨by kernel_rfl,?_⟩))
 try refine xst ?_
 refine cI (fun h1 => ?_) fun h1 => ?_
 ·try refine xst ?_
  refine zcc [0,1,2,3] rfl rfl (by decide) ⟨?_,?_,?_,?_,trivial⟩ trivial ?_<;>simp(etaStruct := .none)only[push_cast,zab,seval]
 ·exact absurd h1 (by decide)
theorem z2h (w:Wld) (d:Ded) (i:Nat) (hw:Right w) (h:w.troops.findIdx? (zq5 d.who)=some i) (b:Bool) (W:Wld) (hW:(ze4 w d i=true→W=zli w i (zal w.f d.c)∧b=true)∧(ze4 w d i=false→W=w∧b=false)):Spec Tryz.prog 135 [.ptr 0 0 0,zpg d] (zfo w) (B b) (zfo W):=by
 have hi:=zif h
 have ok:=hw.trp i hi
 have hav:atV w.f d.c=if inF w.f d.c then (zah w.f d.c,0)else (0,7):=by unfold atV;rw[if_neg (by simp[hw.f])]
 have hx:=ok.x;have hy:=ok.y
 have hfl:=zbc hw.f
 have hld:=ok.load
 refine spB Tryz.func135 88 [.tmp 4] Tryz.results135 ?_
 try refine xz2 (gd hi) zav ?_
 refine caM [0,1,2,3] (zv3 w d.who i hw h) ?_
 try refine xz2 (gd hi) zav ?_
 refine gcP (fun hcc=>z8e (w.troops.getD i default).c d.c (by omega)) ?_
 try refine xz2 (gd hi) zav ?_
 (try(refine⟨by kernel_rfl,?_⟩))
 try refine xz2 (gd hi) zav ?_
 refine cI (fun h1 => ?_) fun h1 => ?_
 ·have e:ze4 w d i=false:=by
   unfold ze4
   simp only[Bool.and_eq_false_iff,decide_eq_false_iff_not]
   rcases h1 with (h1|h1)|h1
   ·exact .inl (.inl (.inl (.inl (by omega))))
   ·exact .inl (.inl (.inl (.inr (by omega))))
   ·exact .inl (.inl (.inr h1))
  obtain⟨rfl,rfl⟩:=hW.2 e
  try refine xz2 (gd hi) zav ?_
  refine zcc [0,1,2,3] rfl rfl (by decide) ⟨?_,?_,?_,?_,trivial⟩ trivial ?_<;>simp(etaStruct := .none)only[push_cast,zab,seval,zli,zbt,List.map_set,zad,zat]
 ·try refine xz2 (gd hi) zav ?_
  refine caP (zyv w.f d.c hw.l.1) ?_
  rw[hav]
  try refine xz2 (gd hi) zav ?_
  (try(refine⟨by kernel_rfl,?_⟩))
  try refine xz2 (gd hi) zav ?_
  refine cI (fun h2 => ?_) fun h2 => ?_
  ·have hin:inF w.f d.c=false:=by
    cases hc:inF w.f d.c with
    | false=>rfl
    | true=>rw[hc]at h2;simp at h2
   have e:ze4 w d i=false:=by unfold ze4;rw[hin];simp
   obtain⟨rfl,rfl⟩:=hW.2 e
   try refine xz2 (gd hi) zav ?_
   refine zcc [0,1,2,3] rfl rfl (by decide) ⟨?_,?_,?_,?_,trivial⟩ trivial ?_<;>simp(etaStruct := .none)only[push_cast,zab,seval,zli,zbt,List.map_set,zad,zat]
  ·have hin:inF w.f d.c=true:=by
    cases hc:inF w.f d.c with
    | true=>rfl
    | false=>rw[hc]at h2;simp at h2
   obtain⟨m1,m2,m3,m4⟩:=z8d hw hin
   obtain⟨m,hm⟩:∃m,m=zal w.f d.c:=⟨_,rfl⟩
   rw[←hm]at m1 m2
   have hml:=hw.ml
   have hpl:=hw.places
   have ew1:IntKind.i64.wrap (IntKind.i64.wrap (d.c.y*w.f.w)+d.c.x)=(m:Int):=by rw[zak (d.c.y*w.f.w) (by omega) (by omega),zak _ (by omega) (by omega)];exact m2
   have hmb:=(hw.mine m m1).1
   try refine xz5 (gd hi) zav ew1 (gd m1) zaq ?_
   (try(refine⟨by kernel_rfl,?_⟩))
   try refine xz5 (gd hi) zav ew1 (gd m1) zaq ?_
   refine cI (fun h3 => ?_) fun h3 => ?_
   ·have e:ze4 w d i=false:=by
     unfold ze4
     rw[←hm,h3];simp
    obtain⟨rfl,rfl⟩:=hW.2 e
    try refine xz5 (gd hi) zav ew1 (gd m1) zaq ?_
    refine zcc [0,1,2,3] rfl rfl (by decide) ⟨?_,?_,?_,?_,trivial⟩ trivial ?_<;>simp(etaStruct := .none)only[push_cast,zab,seval,zli,zbt,List.map_set,zad,zat]
   ·have e:ze4 w d i=true:=by
     unfold ze4
     rw[←hm,hin]
     simp only[Bool.and_eq_true,decide_eq_true_eq]
     exact⟨⟨⟨⟨by omega,by omega⟩,h1.2⟩,trivial⟩,by omega⟩
    obtain⟨rfl,rfl⟩:=hW.1 e
    rw[←hm]
    try refine xz5 (gd hi) zav ew1 (gd m1) zaq ?_
    refine zcc [0,1,2,3] rfl rfl (by decide) ⟨?_,?_,?_,?_,trivial⟩ trivial ?_<;>simp(etaStruct := .none)only[push_cast,zab,seval,zli,zbt,List.map_set,zad,zat]
theorem zyj (w:Wld) (d:Ded) (hw:Right w) (h:w.troops.findIdx? (zq5 d.who)=none):Spec Tryz.prog 136 [.ptr 0 0 0,zpg d] (zfo w) (B false) (zfo w):=by
 refine spB Tryz.func136 80 [.tmp 4] Tryz.results136 ?_
 try refine xst ?_
 refine caM [0,1,2,3] (zv4 w d.who hw h) ?_
 try refine xst ?_
 refine z2q ?_ ?_
 ·rfl
 try refine xst ?_
 (try(refine⟨by kernel_rfl,?_⟩))
 try refine xst ?_
 refine cI (fun h1 => ?_) fun h1 => ?_
 ·try refine xst ?_
  refine zcc [0,1,2,3] rfl rfl (by decide) ⟨?_,?_,?_,?_,trivial⟩ trivial ?_<;>simp(etaStruct := .none)only[push_cast,zab,seval]
 ·exact absurd h1 (by decide)
theorem drop_zero {w:Wld} (hw:Right w) {i:Nat} (hi:i<w.troops.length) (h:(w.troops.getD i default).load=0):zgv w i=0∧zem w i=w:=by
 have hn:=ztm hw hi
 have h0:zgv w i=0:=by omega
 obtain⟨o,e,ho,hs⟩:=zu6 hw hi
 refine⟨h0,?_⟩
 unfold zem
 rw[h0,Int.add_zero,Int.sub_zero,zun _ _ (by omega)]
 have:zbt (w.troops.getD i default) (w.troops.getD i default).load=w.troops.getD i default:=rfl
 rw[this,zun _ _ hi]
theorem z2p (w:Wld) (d:Ded) (i:Nat) (hw:Right w) (h:w.troops.findIdx? (zq5 d.who)=some i) (b:Bool) (W:Wld) (hW:(zni w i=true→W=zem w i∧b=decide (0<zgv w i))∧(zni w i=false→W=w∧b=false)):Spec Tryz.prog 136 [.ptr 0 0 0,zpg d] (zfo w) (B b) (zfo W):=by
 have hi:=zif h
 have ok:=hw.trp i hi
 obtain⟨o,eo,ho,hs⟩:=zu6 hw hi
 have hn:=ztm hw hi
 have hb:=hw.base o ho
 have hbx:=inF_iff.1 (ground_iff.1 hb.1).1
 have hfl:=zbc hw.f
 have hld:=ok.load
 have eo2:(w.troops.getD i default).owner.toNat=o:=by omega
 have edN:zgv w i=min (w.troops.getD i default).load (1000000-w.stocks.getD o default):=by unfold zgv;rw[eo2]
 have ew1:IntKind.i64.wrap (1000000-w.stocks.getD o default)=1000000-w.stocks.getD o default:=zak _ (by omega) (by omega)
 have emn:(if 1000000-w.stocks.getD o default<(w.troops.getD i default).load then 1000000-w.stocks.getD o default else (w.troops.getD i default).load)=zgv w i:=by rw[edN];split<;>omega
 rw[eo2]at hn
 have ew3:IntKind.i64.wrap ((w.troops.getD i default).load-zgv w i)=(w.troops.getD i default).load-zgv w i:=zak _ (by rcases ok.kind with k|k<;>omega) (by rcases ok.kind with k|k<;>omega)
 have setg:∀x:List PV,((w.troops.map zat).set i x).getD i []=x:=fun x=>by rw[z6d _ _ _ (by simpa using hi)];simp
 refine spB Tryz.func136 80 [.tmp 4] Tryz.results136 ?_
 iterate 2(try simp(etaStruct := .none)only[push_cast,zab,seval,setg,zaa _ _ _ hi,zat,eo,zaa _ _ _ ho,za2,zaa _ _ _ hs,zad,ew1,emn];try refine xsu ?_)
 refine caM [0,1,2,3] (zv3 w d.who i hw h) ?_
 iterate 2(try simp(etaStruct := .none)only[push_cast,zab,seval,setg,zaa _ _ _ hi,zat,eo,zaa _ _ _ ho,za2,zaa _ _ _ hs,zad,ew1,emn];try refine xsu ?_)
 refine gcP (fun hcc=>z8e (w.bases.getD o default) (w.troops.getD i default).c (by omega)) ?_
 iterate 2(try simp(etaStruct := .none)only[push_cast,zab,seval,setg,zaa _ _ _ hi,zat,eo,zaa _ _ _ ho,za2,zaa _ _ _ hs,zad,ew1,emn];try refine xsu ?_)
 (try(refine⟨by kernel_rfl,?_⟩))
 iterate 2(try simp(etaStruct := .none)only[push_cast,zab,seval,setg,zaa _ _ _ hi,zat,eo,zaa _ _ _ ho,za2,zaa _ _ _ hs,zad,ew1,emn];try refine xsu ?_)
 refine cI (fun h1 => ?_) fun h1 => ?_
 ·have hd:W=w∧b=false:=by
   rcases h1 with h1|h1
   ·obtain⟨z1,z2⟩:=drop_zero hw hi h1
    cases hk:zni w i with
    | true=>obtain⟨q1,q2⟩:=hW.1 hk;rw[q1,q2,z1,z2];exact⟨rfl,rfl⟩
    | false=>exact hW.2 hk
   ·exact hW.2 (by unfold zni;rw[eo2];exact h1)
  obtain⟨rfl,rfl⟩:=hd
  iterate 2(try simp(etaStruct := .none)only[push_cast,zab,seval,setg,zaa _ _ _ hi,zat,eo,zaa _ _ _ ho,za2,zaa _ _ _ hs,zad,ew1,emn];try refine xsu ?_)
  refine zcc [0,1,2,3] rfl rfl (by decide) ⟨?_,?_,?_,?_,trivial⟩ trivial ?_
  ·simp(etaStruct := .none)only[push_cast,zab,seval,zem]
  ·simp(etaStruct := .none)only[push_cast,zab,seval,zem,eo2,List.map_set,zad]
  ·simp(etaStruct := .none)only[push_cast,zab,seval,zem]
  ·simp(etaStruct := .none)only[push_cast,zab,seval,zem,zbt,List.map_set,zat,eo,ew3]
  ·simp(etaStruct := .none)only[push_cast,zab,seval]
 ·obtain⟨rfl,rfl⟩:=hW.1 (by unfold zni;rw[eo2];exact h1.2)
  iterate 2(try simp(etaStruct := .none)only[push_cast,zab,seval,setg,zaa _ _ _ hi,zat,eo,zaa _ _ _ ho,za2,zaa _ _ _ hs,zad,ew1,emn];try refine xsu ?_)
  (try(refine⟨by kernel_rfl,?_⟩))
  iterate 2(try simp(etaStruct := .none)only[push_cast,zab,seval,setg,zaa _ _ _ hi,zat,eo,zaa _ _ _ ho,za2,zaa _ _ _ hs,zad,ew1,emn];try refine xsu ?_)
  (try(refine⟨by kernel_rfl,?_⟩))
  iterate 2(try simp(etaStruct := .none)only[push_cast,zab,seval,setg,zaa _ _ _ hi,zat,eo,zaa _ _ _ ho,za2,zaa _ _ _ hs,zad,ew1,emn];try refine xsu ?_)
  refine zcc [0,1,2,3] rfl rfl (by decide) ⟨?_,?_,?_,?_,trivial⟩ trivial ?_
  ·simp(etaStruct := .none)only[push_cast,zab,seval,zem]
  ·simp(etaStruct := .none)only[push_cast,zab,seval,zem,eo2,List.map_set,zad]
  ·simp(etaStruct := .none)only[push_cast,zab,seval,zem]
  ·simp(etaStruct := .none)only[push_cast,zab,seval,zem,zbt,List.map_set,zat,eo,ew3]
  ·simp(etaStruct := .none)only[push_cast,zab,seval]
theorem z9d (F:FuncId) (a b:List AV) (l:List Trp) (p:Trp→Bool) (hl:l.length≤9223372036854775807) (hp:∀n∈l,Spec Tryz.prog F (a ++ [z7r n]++b) [] (B (p n)) []) (ha:∀h,cvL [] h a=a) (hb:∀h,cvL [] h b=b) :
 Spec Tryz.prog 183 [.c (.sl 7 (l.map zat)),.clo (.func F) a b] [] (B (l.any p)) []:=by
 refine spB Tryz.func183 9 [.tmp 4] Tryz.results183 ?_
 simp(etaStruct := .none)only[push_cast,zab,seval]
 refine zdl (zt9 F a b l p hl hp ha hb) (by simp only[ha,hb,cvL,cv];exact WkL.refl _) ?_
 simp(etaStruct := .none)only[push_cast,zab,seval]
 exact zb0 rfl trivial (Wk.of (by rw[zgi];rfl))
theorem yi1 (t:Trp) (c:Cel):Spec Tryz.prog 184 ([] ++ [z7r t] ++ [.fel 2 [[pI c.x,pI c.y]] 0 0]) [] (B (decide (t.c=c))) []:=by
 refine spB Tryz.func184 8 [.tmp 3] Tryz.results184 ?_
 try refine xz1 zdq ?_
 exact xrz rfl
theorem z3k (b:Cel) {i j:Nat} (hi:i<3) (hj:j<3):(zdm b).getD (1+3*i+j) default=⟨b.x+((j:Int)-1),b.y+((i:Int)-1)⟩:=by
 have h1:i=0∨i=1∨i=2:=by omega
 have h2:j=0∨j=1∨j=2:=by omega
 obtain⟨x,y⟩:=b
 have e1:x+(((1:Nat):Int)-1)=x:=by omega
 have e2:y+(((1:Nat):Int)-1)=y:=by omega
 have e3:x+(((0:Nat):Int)-1)=x-1:=by omega
 have e4:y+(((0:Nat):Int)-1)=y-1:=by omega
 have e5:x+(((2:Nat):Int)-1)=x+1:=by omega
 have e6:y+(((2:Nat):Int)-1)=y+1:=by omega
 rcases h1 with rfl|rfl|rfl<;>rcases h2 with rfl|rfl|rfl<;>simp only[e1,e2,e3,e4,e5,e6]<;>rfl
theorem ztv (b:Cel) {i j:Nat} (hi:i<3) (hj:j<3):(zdm b).take (1+3*i+(j+1))=(zdm b).take (1+3*i+j) ++ [(⟨b.x+((j:Int)-1),b.y+((i:Int)-1)⟩:Cel)]:=by
 rw[←z3k b hi hj]
 change (zdm b).take ((1+3*i+j)+1)=_
 exact zan _ _ (by rw[show (zdm b).length=10 from rfl];omega)
theorem z2k (w:Wld) (b:Cel) (hw:Right w) (hb : -1000≤b.x∧b.x≤1000 ∧ -1000≤b.y∧b.y≤1000) (c:Cel) (q:Bool) (h:(∀c',ztg w b=some c'→c=c'∧q=true)∧(ztg w b=none→c=⟨0,0⟩∧q=false)):Spec Tryz.prog 167 [.ptr 0 0 0,zgw b] (zfo w) (.tup [zgw c,B q]) (zfo w):=by
 have hal:(zdm b).length=10:=rfl
 have hnt:=hw.nt
 have hav:∀c,atV w.f c=if inF w.f c then (zah w.f c,0)else (0,7):=fun c=>by unfold atV;rw[if_neg (by simp[hw.f])]
 refine spB Tryz.func167 70 [.cell 4 46,.tmp 5] Tryz.results167 ?_
 try refine xst ?_
 refine zaw (fun i:Nat=>⟨[(7,I .i64 ((i:Int)-1)),(6,.own 6),(4,.ptr 5 0 0),(3,.ptr 4 0 0),(0,.ptr 0 0 0)],[(0,.blk 200 (ycs w 1 2 3)),(1,stR w),(2,miR w),(3,trR w),(4,.blk 46 [I .i64 b.x,I .i64 b.y]),(5,.blk 46 [I .i64 0,I .i64 0]),(6,.row 46 2 (((zdm b).take (1+3*i)).map za2))],7⟩) (fun i:Nat=>i≤3) (fun i:Nat=>3-i) (0) (Nat.zero_le _) (To.mk [0,1,2,3,4,5,6] rfl rfl (by decide) ?_ ?_) ?_
 ·simp(etaStruct := .none)only[push_cast,zab,seval,zdm,za2]
 ·simp(etaStruct := .none)only[push_cast,zab,seval,Int.zero_sub]
 rintro i hi
 try refine xst ?_
 refine cI (fun h1 => ?_) fun h1 => ?_
 ·have hi3:i<3:=by omega
  try refine xst ?_
  refine zaw (fun j:Nat=>⟨[(8,I .i64 ((j:Int)-1)),(7,I .i64 ((i:Int)-1)),(6,.own 6),(4,.ptr 5 0 0),(3,.ptr 4 0 0),(0,.ptr 0 0 0)],[(0,.blk 200 (ycs w 1 2 3)),(1,stR w),(2,miR w),(3,trR w),(4,.blk 46 [I .i64 b.x,I .i64 b.y]),(5,.blk 46 [I .i64 0,I .i64 0]),(6,.row 46 2 (((zdm b).take (1+3*i+j)).map za2))],7⟩) (fun j:Nat=>j≤3) (fun j:Nat=>3-j) (0) (Nat.zero_le _) (To.mk [0,1,2,3,4,5,6] rfl rfl (by decide) ?_ ?_) ?_
  ·simp(etaStruct := .none)only[push_cast,zab,seval]
  ·simp(etaStruct := .none)only[push_cast,zab,seval,Int.zero_sub]
  rintro j hj
  try refine xst ?_
  refine cI (fun h2 => ?_) fun h2 => ?_
  ·have hj3:j<3:=by omega
   have hst:=ztv b hi3 hj3
   have hln:((zdm b).take (1+3*i+j)).length≤10:=by rw[List.length_take,hal];omega
   try refine xst ?_
   refine⟨j+1,by omega,by omega,To.mk [0,1,2,3,4,5,8] rfl rfl (by decide) ?_ ?_⟩
   ·(iterate 2((try simp(etaStruct := .none)only[push_cast,zab,seval,hst,List.map_append,za2]);(try(refine xsu ?_;try exact xtI))))
   ·(iterate 2((try simp(etaStruct := .none)only[push_cast,zab,seval,Int.add_sub_cancel,Int.sub_add_cancel]);(try(refine xsu ?_;try exact xtI))))
  ·obtain rfl:j=3:=by omega
   try refine xst ?_
   refine⟨i+1,by omega,by omega,To.mk [0,1,2,3,4,5,6] rfl rfl (by decide) ?_ ?_⟩
   ·(iterate 2((try simp(etaStruct := .none)only[push_cast,zab,seval,Nat.mul_add,Nat.mul_one,Nat.add_assoc]);(try(refine xsu ?_;try exact xtI))))
   ·(iterate 2((try simp(etaStruct := .none)only[push_cast,zab,seval,Int.add_sub_cancel,Int.sub_add_cancel]);(try(refine xsu ?_;try exact xtI))))
 ·obtain rfl:i=3:=by omega
  have hta:(zdm b).take (1+3*3)=zdm b:=rfl
  try refine xst ?_
  refine zaw (fun k:Nat=>⟨[(37,I .i64 k),(36,I .i64 10),(35,.own 6),(4,.ptr 5 0 0),(0,.ptr 0 0 0)],[(0,.blk 200 (ycs w 1 2 3)),(1,stR w),(2,miR w),(3,trR w),(4,.blk 46 [I .i64 b.x,I .i64 b.y]),(5,.blk 46 [I .i64 0,I .i64 0]),(6,.row 46 2 ((zdm b).map za2))],7⟩) (fun k:Nat=>k≤10∧∀j,j<k→zre w ((zdm b).getD j default)=false) (fun k:Nat=>10-k) (0) (⟨Nat.zero_le _,fun j h=>absurd h (Nat.not_lt_zero _)⟩) (To.mk [0,1,2,3,4,5,6] rfl rfl (by decide) ?_ ?_) ?_
  ·simp(etaStruct := .none)only[push_cast,zab,seval,hta]
  ·simp(etaStruct := .none)only[push_cast,zab,seval,hta,hal]
  rintro k ⟨hk,hn⟩
  try refine xst ?_
  refine zax (fun h3 => ?_) (fun h3 => ?_)
  ·(try replace h3:=xhh h3)
   have hlt:k<(zdm b).length:=by rw[hal];omega
   obtain⟨x,hx⟩:∃x,x=(zdm b).getD k default:=⟨_,rfl⟩
   (iterate 2((try simp(etaStruct := .none) (maxSteps:=1000000)only[push_cast,zab,seval,zaa _ _ _ hlt,←hx,za2]);(try(refine xsu ?_;try exact xtI))))
   refine caP (zyv w.f x hw.l.1) ?_
   rw[hav]
   (iterate 2((try simp(etaStruct := .none) (maxSteps:=1000000)only[push_cast,zab,seval,zaa _ _ _ hlt,←hx,za2]);(try(refine xsu ?_;try exact xtI))))
   (try(refine⟨by kernel_rfl,?_⟩))
   (iterate 2((try simp(etaStruct := .none) (maxSteps:=1000000)only[push_cast,zab,seval,zaa _ _ _ hlt,←hx,za2]);(try(refine xsu ?_;try exact xtI))))
   refine zly (fun hcc=>z9d _ [] [.fel 2 [[pI x.x,pI x.y]] 0 0] w.troops (fun t=>decide (t.c=x)) (by omega) (fun t _=>yi1 t x) (fun _=>rfl) (fun _=>rfl)) (WkL.refl _) rfl (by intro hc;(try simp(etaStruct := .none)only[push_cast,zab,seval]);(try simp_all)) ?_
   (iterate 2((try simp(etaStruct := .none) (maxSteps:=1000000)only[push_cast,zab,seval,zaa _ _ _ hlt,←hx,za2]);(try(refine xsu ?_;try exact xtI))))
   refine cI (fun h4 => ?_) fun h4 => ?_
   ·have hfb:zre w x=true:=by
     unfold zre zb2
     cases hc:inF w.f x with
     | false=>rw[hc]at h4;simp at h4
     | true =>
      rw[hc]at h4
      simp only[if_true]at h4
      rw[h4.2];simp;exact h4.1.2
    obtain⟨rfl,rfl⟩:=h.1 x (by unfold ztg;rw[hx];exact z6l _ _ k hlt (by rw[←hx];exact hfb) hn)
    (iterate 2((try simp(etaStruct := .none) (maxSteps:=1000000)only[push_cast,zab,seval,zaa _ _ _ hlt,←hx,za2]);(try(refine xsu ?_;try exact xtI))))
    refine zcc [0,1,2,3] rfl rfl (by decide) ⟨?_,?_,?_,?_,trivial⟩ ?_ ?_<;>first|exact Wk.refl _|(try simp(etaStruct := .none)only[push_cast,zab,seval])
   ·have hfb:zre w x=false:=by
     unfold zre zb2
     cases hc:inF w.f x with
     | false=>rfl
     | true =>
      rw[hc]at h4
      simp only[if_true]at h4
      rcases h4 with h4|h4
      ·by_cases hp:zah w.f x=1
       ·simp[hp]
       ·exact absurd (h4.resolve_left (fun n=>n trivial)) hp
      ·rw[h4];simp
    (iterate 2((try simp(etaStruct := .none) (maxSteps:=1000000)only[push_cast,zab,seval,zaa _ _ _ hlt,←hx,za2]);(try(refine xsu ?_;try exact xtI))))
    refine⟨k+1,⟨by omega,fun j hj=>by
 rcases Nat.lt_or_ge j k with h'|h'
 ·exact hn j h'
 ·rw [show j = k by omega, ← hx]; exact hfb⟩, by omega, To.mk [0, 1, 2, 3, 4, 5, 6] rfl rfl (by decide) ?_ ?_⟩
    ·(iterate 2((try simp(etaStruct := .none) (maxSteps:=1000000)only[push_cast,zab,seval,zaa _ _ _ hlt,←hx,za2]);(try(refine xsu ?_;try exact xtI))))
    ·(iterate 2((try simp(etaStruct := .none) (maxSteps:=1000000)only[push_cast,zab,seval,zaa _ _ _ hlt,←hx,za2]);(try(refine xsu ?_;try exact xtI))))
  ·(try replace h3:=xhh h3)
   obtain⟨rfl,rfl⟩:=h.2 (z2t _ _ (fun j hj=>hn j (by rw[hal]at hj;omega)))
   try refine xst ?_
   refine zcc [0,1,2,3] rfl rfl (by decide) ⟨?_,?_,?_,?_,trivial⟩ ?_ ?_<;>first|exact Wk.refl _|(try simp(etaStruct := .none)only[push_cast,zab,seval])
end Go.Proofs.YtmjbgbmegbkmhaaGreat
namespace Go.Proofs.YtmjbgbmegbkmhaaGreat
set_option linter.all false
open Go.RowKit
set_option maxRecDepth 100000
set_option maxHeartbeats 2000000
theorem zlt (k:Int):zfs k=0↔k=1∨k=2:=by unfold zfs;split<;>(try split)<;>omega
theorem zwu {w:Wld} (hw:Right w) {i:Nat} (hi:i<w.bases.length) : -1000≤(w.bases.getD i default).x∧(w.bases.getD i default).x≤1000 ∧ -1000≤(w.bases.getD i default).y∧(w.bases.getD i default).y≤1000:=by
 have:=inF_iff.1 (ground_iff.1 (hw.base i hi).1).1
 have:=zbc hw.f
 omega
theorem z2j (w:Wld) (d:Ded) (hw:Right w) (h:w.stocks.length≤d.who.toNat):Spec Tryz.prog 137 [.ptr 0 0 0,zpg d] (zfo w) (B false) (zfo w):=by
 have hsl:=hw.sl
 have hg:(w.stocks.map zad).getD d.who.toNat [] = []:=by
  simp only[List.getD_eq_getElem?_getD];rw[List.getElem?_eq_none (by rw[List.length_map];exact h)];rfl
 have hge:d.who<0∨(w.bases.length:Int)≤d.who:=by omega
 refine spB Tryz.func137 126 [.tmp 4] Tryz.results137 ?_
 (iterate 2((try simp(etaStruct := .none) (maxSteps:=1000000)only[push_cast,zab,seval,hg]);(try(refine xsu ?_;try exact xtI))))
 refine caP (zg6 d.what) ?_
 (iterate 2((try simp(etaStruct := .none) (maxSteps:=1000000)only[push_cast,zab,seval,hg]);(try(refine xsu ?_;try exact xtI))))
 (try(refine⟨by kernel_rfl,?_⟩))
 (iterate 2((try simp(etaStruct := .none) (maxSteps:=1000000)only[push_cast,zab,seval,hg]);(try(refine xsu ?_;try exact xtI))))
 refine cI (fun h1 => ?_) fun h1 => ?_
 ·(iterate 2((try simp(etaStruct := .none) (maxSteps:=1000000)only[push_cast,zab,seval,hg]);(try(refine xsu ?_;try exact xtI))))
  refine zcc [0,1,2,3] rfl rfl (by decide) ⟨?_,?_,?_,?_,trivial⟩ trivial ?_<;>first|exact Wk.refl _|simp(etaStruct := .none)only[push_cast,zab,seval]
 ·exact absurd h1 (by decide)
theorem zv5 (w:Wld) (d:Ded) (hw:Right w) (h:d.who.toNat<w.stocks.length) (hno:zlw w d=false∨ztg w (w.bases.getD d.who.toNat default)=none):Spec Tryz.prog 137 [.ptr 0 0 0,zpg d] (zfo w) (B false) (zfo w):=by
 have hsl:=hw.sl
 have hb:d.who.toNat<w.bases.length:=by omega
 have hbb:=zwu hw hb
 have hnt:=hw.nt
 refine spB Tryz.func137 126 [.tmp 4] Tryz.results137 ?_
 (iterate 2((try simp(etaStruct := .none) (maxSteps:=1000000)only[push_cast,zab,seval,zaa _ _ _ h,zaa _ _ _ hb,zad,za2]);(try(refine xsu ?_;try exact xtI))))
 refine caP (zg6 d.what) ?_
 (iterate 2((try simp(etaStruct := .none) (maxSteps:=1000000)only[push_cast,zab,seval,zaa _ _ _ h,zaa _ _ _ hb,zad,za2]);(try(refine xsu ?_;try exact xtI))))
 (try(refine⟨by kernel_rfl,?_⟩))
 (iterate 2((try simp(etaStruct := .none) (maxSteps:=1000000)only[push_cast,zab,seval,zaa _ _ _ h,zaa _ _ _ hb,zad,za2]);(try(refine xsu ?_;try exact xtI))))
 refine cI (fun h1 => ?_) fun h1 => ?_
 ·(iterate 2((try simp(etaStruct := .none) (maxSteps:=1000000)only[push_cast,zab,seval,zaa _ _ _ h,zaa _ _ _ hb,zad,za2]);(try(refine xsu ?_;try exact xtI))))
  refine zcc [0,1,2,3] rfl rfl (by decide) ⟨?_,?_,?_,?_,trivial⟩ trivial ?_<;>first|exact Wk.refl _|simp(etaStruct := .none)only[push_cast,zab,seval]
 ·have hy:zlw w d=true:=by rw[hireOk_iff,←zlt];exact⟨⟨⟨⟨⟨by omega,by omega⟩,by omega⟩,by omega⟩,by omega⟩,by omega⟩
  have hf:ztg w (w.bases.getD d.who.toNat default)=none:=by rcases hno with h2|h2;rw[hy]at h2;simp at h2;exact h2
  (iterate 2((try simp(etaStruct := .none) (maxSteps:=1000000)only[push_cast,zab,seval,zaa _ _ _ h,zaa _ _ _ hb,zad,za2]);(try(refine xsu ?_;try exact xtI))))
  refine zfv [0,1,2,3] (z2k w (w.bases.getD d.who.toNat default) hw hbb ⟨0,0⟩ false ⟨fun c' hc=>by rw[hf]at hc;simp at hc,fun _=>⟨rfl,rfl⟩⟩) (WkL.refl _) rfl (by decide) (by simp[zbw,zfb,zrw]) ?_
  (iterate 2((try simp(etaStruct := .none) (maxSteps:=1000000)only[push_cast,zab,seval,zaa _ _ _ h,zaa _ _ _ hb,zad,za2]);(try(refine xsu ?_;try exact xtI))))
  (try(refine⟨by kernel_rfl,?_⟩))
  (iterate 2((try simp(etaStruct := .none) (maxSteps:=1000000)only[push_cast,zab,seval,zaa _ _ _ h,zaa _ _ _ hb,zad,za2]);(try(refine xsu ?_;try exact xtI))))
  refine cI (fun h2 => ?_) fun h2 => ?_
  ·(iterate 2((try simp(etaStruct := .none) (maxSteps:=1000000)only[push_cast,zab,seval,zaa _ _ _ h,zaa _ _ _ hb,zad,za2]);(try(refine xsu ?_;try exact xtI))))
   refine zcc [0,1,2,3] rfl rfl (by decide) ⟨?_,?_,?_,?_,trivial⟩ trivial ?_<;>first|exact Wk.refl _|simp(etaStruct := .none)only[push_cast,zab,seval]
  ·exact absurd h2 (by decide)
abbrev z4i (w:Wld):List Chunk := [.blk 200 (ycs w 1 2 4),stR w,miR w,.dead,trR w]
theorem z2i (w:Wld) (d:Ded) (hw:Right w) (ho:zlw w d=true) (c:Cel) (hc:ztg w (w.bases.getD d.who.toNat default)=some c):Spec Tryz.prog 137 [.ptr 0 0 0,zpg d] (zfo w) (B true) (z4i (zdu w d c)):=by
 have hsl:=hw.sl
 have hoi:=hireOk_iff.1 ho
 rw[←zlt]at hoi
 have h:d.who.toNat<w.stocks.length:=by omega
 have hb:d.who.toNat<w.bases.length:=by omega
 have hbb:=zwu hw hb
 have hnt:=hw.nt
 have hnx:=hw.nx
 have hst:=(hw.base _ hb).2.1
 have hpr:0≤(zbe d.what).price∧(zbe d.what).price≤12:=by rcases (zlt _).1 hoi.1.1.1.2 with e|e<;>rw[e]<;>decide
 have ew:IntKind.i64.wrap (w.stocks.getD d.who.toNat default-(zbe d.what).price)=w.stocks.getD d.who.toNat default-(zbe d.what).price:=zak _ (by omega) (by omega)
 have ew2:IntKind.i64.wrap (w.next+1)=w.next+1:=zak _ (by omega) (by omega)
 refine spB Tryz.func137 126 [.tmp 4] Tryz.results137 ?_
 (iterate 2((try simp(etaStruct := .none) (maxSteps:=1000000)only[push_cast,zab,seval,zaa _ _ _ h,zaa _ _ _ hb,zad,za2,ew,ew2]);(try(refine xsu ?_;try exact xtI))))
 refine caP (zg6 d.what) ?_
 (iterate 2((try simp(etaStruct := .none) (maxSteps:=1000000)only[push_cast,zab,seval,zaa _ _ _ h,zaa _ _ _ hb,zad,za2,ew,ew2]);(try(refine xsu ?_;try exact xtI))))
 (try(refine⟨by kernel_rfl,?_⟩))
 (iterate 2((try simp(etaStruct := .none) (maxSteps:=1000000)only[push_cast,zab,seval,zaa _ _ _ h,zaa _ _ _ hb,zad,za2,ew,ew2]);(try(refine xsu ?_;try exact xtI))))
 refine cI (fun h1 => ?_) fun h1 => ?_
 ·exfalso;omega
 ·(iterate 2((try simp(etaStruct := .none) (maxSteps:=1000000)only[push_cast,zab,seval,zaa _ _ _ h,zaa _ _ _ hb,zad,za2,ew,ew2]);(try(refine xsu ?_;try exact xtI))))
  refine zfv [0,1,2,3] (z2k w (w.bases.getD d.who.toNat default) hw hbb c true ⟨fun c' hc'=>by rw[hc]at hc';exact⟨(Option.some.inj hc'),rfl⟩,fun hn=>by rw[hc]at hn;simp at hn⟩) (WkL.refl _) rfl (by decide) (by simp[zbw,zfb,zrw]) ?_
  (iterate 2((try simp(etaStruct := .none) (maxSteps:=1000000)only[push_cast,zab,seval,zaa _ _ _ h,zaa _ _ _ hb,zad,za2,ew,ew2]);(try(refine xsu ?_;try exact xtI))))
  (try(refine⟨by kernel_rfl,?_⟩))
  (iterate 2((try simp(etaStruct := .none) (maxSteps:=1000000)only[push_cast,zab,seval,zaa _ _ _ h,zaa _ _ _ hb,zad,za2,ew,ew2]);(try(refine xsu ?_;try exact xtI))))
  refine cI (fun h2 => ?_) fun h2 => ?_
  ·exact absurd h2 (by decide)
  ·(iterate 2((try simp(etaStruct := .none) (maxSteps:=1000000)only[push_cast,zab,seval,zaa _ _ _ h,zaa _ _ _ hb,zad,za2,ew,ew2]);(try(refine xsu ?_;try exact xtI))))
   (try(refine⟨by kernel_rfl,?_⟩))
   (iterate 2((try simp(etaStruct := .none) (maxSteps:=1000000)only[push_cast,zab,seval,zaa _ _ _ h,zaa _ _ _ hb,zad,za2,ew,ew2]);(try(refine xsu ?_;try exact xtI))))
   (try(refine⟨by kernel_rfl,?_⟩))
   (iterate 2((try simp(etaStruct := .none) (maxSteps:=1000000)only[push_cast,zab,seval,zaa _ _ _ h,zaa _ _ _ hb,zad,za2,ew,ew2]);(try(refine xsu ?_;try exact xtI))))
   refine zcc [0,1,2,3,350] rfl rfl (by decide) ⟨?_,?_,?_,?_,?_,trivial⟩ trivial ?_
   ·simp(etaStruct := .none) (maxSteps:=1000000)only[push_cast,zab,seval,zdu]
   ·simp(etaStruct := .none) (maxSteps:=1000000)only[push_cast,zab,seval,zdu,List.map_set,zad]
   ·simp(etaStruct := .none) (maxSteps:=1000000)only[push_cast,zab,seval,zdu]
   ·simp(etaStruct := .none) (maxSteps:=1000000)only[push_cast,zab,seval,zdu]
   ·simp(etaStruct := .none) (maxSteps:=1000000)only[push_cast,zab,seval,zdu,List.map_append,zat]
   ·exact Wk.refl _
theorem zte (w W:Wld) (d:Ded) (b:Bool) (h:d.kind=1) (M:Spec Tryz.prog 135 [.ptr 0 0 0,zpg d] (zfo w) (B b) (zfo W)):Spec Tryz.prog 93 [.ptr 0 0 0,zpg d] (zfo w) (B b) (zfo W):=by
 refine spB Tryz.func93 22 [.tmp 4] Tryz.results93 ?_
 try refine xst ?_
 refine cI (fun h1 => ?_) fun h1 => ?_
 ·try refine xst ?_
  refine caM [0,1,2,3] (M) ?_
  try refine xst ?_
  refine zcc [0,1,2,3] rfl rfl (by decide) ⟨?_,?_,?_,?_,trivial⟩ trivial ?_<;>first|exact Wk.refl _|simp(etaStruct := .none)only[push_cast,zab,seval]
 ·exact absurd h h1
theorem ztd (w W:Wld) (d:Ded) (b:Bool) (h:d.kind=2) (M:Spec Tryz.prog 136 [.ptr 0 0 0,zpg d] (zfo w) (B b) (zfo W)):Spec Tryz.prog 93 [.ptr 0 0 0,zpg d] (zfo w) (B b) (zfo W):=by
 refine spB Tryz.func93 22 [.tmp 4] Tryz.results93 ?_
 try refine xst ?_
 refine cI (fun h1 => ?_) fun h1 => ?_
 ·exfalso;omega
 ·try refine xst ?_
  refine cI (fun h2 => ?_) fun h2 => ?_
  ·try refine xst ?_
   refine caM [0,1,2,3] (M) ?_
   try refine xst ?_
   refine zcc [0,1,2,3] rfl rfl (by decide) ⟨?_,?_,?_,?_,trivial⟩ trivial ?_<;>first|exact Wk.refl _|simp(etaStruct := .none)only[push_cast,zab,seval]
  ·exact absurd h h2
theorem ztc (w:Wld) (d:Ded) (h:d.kind=3) (M:Spec Tryz.prog 137 [.ptr 0 0 0,zpg d] (zfo w) (B false) (zfo w)):Spec Tryz.prog 93 [.ptr 0 0 0,zpg d] (zfo w) (B false) (zfo w):=by
 refine spB Tryz.func93 22 [.tmp 4] Tryz.results93 ?_
 try refine xst ?_
 refine cI (fun h1 => ?_) fun h1 => ?_
 ·exfalso;omega
 ·try refine xst ?_
  refine cI (fun h2 => ?_) fun h2 => ?_
  ·exfalso;omega
  ·try refine xst ?_
   refine cI (fun h3 => ?_) fun h3 => ?_
   ·try refine xst ?_
    refine caM [0,1,2,3] (M) ?_
    try refine xst ?_
    refine zcc [0,1,2,3] rfl rfl (by decide) ⟨?_,?_,?_,?_,trivial⟩ trivial ?_<;>first|exact Wk.refl _|simp(etaStruct := .none)only[push_cast,zab,seval]
   ·exact absurd h h3
theorem ybq (w:Wld) (d:Ded) (h:d.kind≠1∧d.kind≠2∧d.kind≠3):Spec Tryz.prog 93 [.ptr 0 0 0,zpg d] (zfo w) (B false) (zfo w):=by
 refine spB Tryz.func93 22 [.tmp 4] Tryz.results93 ?_
 try refine xst ?_
 refine cI (fun h1 => ?_) fun h1 => ?_
 ·exfalso;omega
 ·try refine xst ?_
  refine cI (fun h2 => ?_) fun h2 => ?_
  ·exfalso;omega
  ·try refine xst ?_
   refine cI (fun h3 => ?_) fun h3 => ?_
   ·exfalso;omega
   ·try refine xst ?_
    refine zcc [0,1,2,3] rfl rfl (by decide) ⟨?_,?_,?_,?_,trivial⟩ trivial ?_<;>first|exact Wk.refl _|simp(etaStruct := .none)only[push_cast,zab,seval]
theorem ybp (w W:Wld) (d:Ded) (h:d.kind=3) (M:Spec Tryz.prog 137 [.ptr 0 0 0,zpg d] (zfo w) (B true) (z4i W)):Spec Tryz.prog 93 [.ptr 0 0 0,zpg d] (zfo w) (B true) (z4i W):=by
 refine spB Tryz.func93 22 [.tmp 4] Tryz.results93 ?_
 try refine xst ?_
 refine cI (fun h1 => ?_) fun h1 => ?_
 ·exfalso;omega
 ·try refine xst ?_
  refine cI (fun h2 => ?_) fun h2 => ?_
  ·exfalso;omega
  ·try refine xst ?_
   refine cI (fun h3 => ?_) fun h3 => ?_
   ·try refine xst ?_
    refine caM [0,1,2,3] (M) ?_
    try refine xst ?_
    refine zcc [0,1,2,3,5] rfl rfl (by decide) ⟨?_,?_,?_,?_,?_,trivial⟩ trivial ?_<;>first|exact Wk.refl _|simp(etaStruct := .none)only[push_cast,zab,seval]
   ·exact absurd h h3
theorem ybo (w:Wld) (d:Ded) (hw:Right w):Spec Tryz.prog 93 [.ptr 0 0 0,zpg d] (zfo w) (B (zfu w d).2) (zfo (zfu w d).1)∨Spec Tryz.prog 93 [.ptr 0 0 0,zpg d] (zfo w) (B (zfu w d).2) (z4i (zfu w d).1):=by
 unfold zfu
 split
 ·rename_i h
  split
  ·rename_i i hi
   split
   ·rename_i ho;exact .inl (zte w _ d true h (z2h w d i hw hi true _ ⟨fun _=>⟨rfl,rfl⟩,fun h2=>by rw[ho]at h2;simp at h2⟩))
   ·rename_i ho;exact .inl (zte w _ d false h (z2h w d i hw hi false _ ⟨fun h2=>absurd h2 ho,fun _=>⟨rfl,rfl⟩⟩))
  ·rename_i hi;exact .inl (zte w _ d false h (zyh w d hw hi))
 ·split
  ·rename_i h
   split
   ·rename_i i hi
    split
    ·rename_i ho;exact .inl (ztd w _ d _ h (z2p w d i hw hi _ _ ⟨fun _=>⟨rfl,rfl⟩,fun h2=>by rw[ho]at h2;simp at h2⟩))
    ·rename_i ho;exact .inl (ztd w _ d false h (z2p w d i hw hi false _ ⟨fun h2=>absurd h2 ho,fun _=>⟨rfl,rfl⟩⟩))
   ·rename_i hi;exact .inl (ztd w _ d false h (zyj w d hw hi))
  ·split
   ·rename_i h
    split
    ·rename_i ho
     split
     ·rename_i c hc;exact .inr (ybp w _ d h (z2i w d hw ho c hc))
     ·rename_i hc
      have hoi:=hireOk_iff.1 ho
      exact .inl (ztc w d h (zv5 w d hw (by have:=hw.sl;omega) (.inr hc)))
    ·rename_i ho
     rcases Nat.lt_or_ge d.who.toNat w.stocks.length with h2|h2
     ·exact .inl (ztc w d h (zv5 w d hw h2 (.inl (by simpa using ho))))
     ·exact .inl (ztc w d h (z2j w d hw h2))
   ·exact .inl (ybq w d ⟨by assumption,by assumption,by assumption⟩)
theorem yfi (w:Wld) (hw:Right w):Spec Tryz.prog 92 [zcx w] [] (.agg [I .i64 w.f.w,I .i64 w.f.h,.c (.sl 1 (w.f.p.map zad)),.c (.sl 2 (w.bases.map za2)),.own 0,.own 1,.own 2,I .i64 w.next,I .i64 w.now]) [stR w,miR w,trR w]:=by
 have h1:=hw.places
 have h2:=hw.nb
 have h3:=hw.sl
 have h4:=hw.ml
 have h5:=hw.nt
 refine spB Tryz.func92 26 [.cell 2 28] Tryz.results92 ?_
 try refine xst ?_
 refine caP (zfh w.f.p (by omega)) ?_
 try refine xst ?_
 refine caP (zo7 w.bases (by omega)) ?_
 try refine xst ?_
 refine caM [] (zd9 w.stocks (by omega)) ?_
 try refine xst ?_
 (try(refine⟨by kernel_rfl,?_⟩))
 try refine xst ?_
 refine caM [] (zd9 w.mines (by omega)) ?_
 try refine xst ?_
 refine caM [] (zko w.troops (by omega)) ?_
 try refine xst ?_
 (try(refine⟨by kernel_rfl,?_⟩))
 try refine xst ?_
 refine zcc [22,50,62] rfl rfl (by decide) ⟨?_,?_,?_,trivial⟩ ?_ ?_<;>first|exact Wk.refl _|(try simp(etaStruct := .none)only[push_cast,zab,seval])
theorem yk2 (w:Wld) (l:List Ded) (hw:Right w) (hll:l.length≤200):Spec Tryz.prog 49 [zcx w,.c (.sl 5 (l.map zmb))] [] (.tup [zcx (za9 w l).1,.c (.sl 1 ((za9 w l).2.map zcu)),I .i64 0]) []:=by
 have he:=hw.e
 refine spB Tryz.func49 40 [.cell 4 28,.tmp 5,.tmp 6] Tryz.results49 ?_
 try refine xst ?_
 refine caP (zdw w hw.l) ?_
 try refine xst ?_
 refine cI (fun h1 => ?_) fun h1 => ?_
 ·exact absurd he h1
 ·try refine xst ?_
  refine cI (fun h2 => ?_) fun h2 => ?_
  ·omega
  ·try refine xst ?_
   refine caM [] (yfi w hw) ?_
   try refine xst ?_
   refine zaw (fun k:Nat=>⟨[(27,I .i64 k),(26,I .i64 l.length),(25,.c (.sl 5 (l.map zmb))),(9,.own 5),(8,.ptr 1 0 0),(4,.ptr 0 0 0)],[(0,.blk 28 [I .i64 0,I .i64 0,.c (.v (.slice none 0 0)),.c (.v (.slice none 0 0)),.c (.v (.slice none 0 0)),.c (.v (.slice none 0 0)),.c (.v (.slice none 0 0)),I .i64 0,I .i64 0]),(1,.blk 200 (ycs (za9 w (l.take k)).1 2 3 4)),(2,stR (za9 w (l.take k)).1),(3,miR (za9 w (l.take k)).1),(4,trR (za9 w (l.take k)).1),(5,.row 4 1 ((za9 w (l.take k)).2.map zcu))],6⟩) (fun k:Nat=>k≤l.length) (fun k:Nat=>l.length-k) (0) (Nat.zero_le _) ((To.nil 9 4 1 rfl).trans (To.mk [1,5,2,3,4,6] rfl rfl (by decide) ?_ ?_)) ?_
   ·simp(etaStruct := .none)only[push_cast,zab,seval,List.take_zero,za9]
   ·simp(etaStruct := .none)only[push_cast,zab,seval]
   rintro k hk
   try refine xst ?_
   refine cI (fun h3 => ?_) fun h3 => ?_
   ·have hlt:k<l.length:=by omega
    obtain⟨d,hd⟩:∃d,d=l.getD k default:=⟨_,rfl⟩
    have hst:za9 w (l.take (k+1))=((zfu (za9 w (l.take k)).1 d).1,(za9 w (l.take k)).2 ++ [(zfu (za9 w (l.take k)).1 d).2]):=by rw[zan _ _ hlt,←hd,ztn]
    have hR:=zk5 (l.take k) hw
    have hbl:=zyq (l.take k) w
    rw[List.length_take]at hbl
    generalize (za9 w (l.take k)).1=W at *
    generalize (za9 w (l.take k)).2=bs at *
    try refine xz3 (gd hlt) hd.symm yfp ?_
    rcases ybo W d hR with M|M
    ·refine zfv [1,2,3,4] M (WkL.refl _) rfl (by decide) (by simp[zbw]) ?_
     try refine xz1 zga ?_
     refine⟨k+1,by omega,by omega,To.mk [0,1,2,3,4,8] rfl rfl (by decide) ?_ ?_⟩
     ·(iterate 2((try simp(etaStruct := .none)only[push_cast,zab,seval,hst,List.map_append,zcu]);(try(refine xsu ?_;try exact xtI))))
     ·(try(refine xst ?_;try exact xtI))
    ·refine zfv [1,2,3,4] M (WkL.refl _) rfl (by decide) (by simp[zbw]) ?_
     try refine xz1 zga ?_
     refine⟨k+1,by omega,by omega,To.mk [0,1,2,3,7,9] rfl rfl (by decide) ?_ ?_⟩
     ·(iterate 2((try simp(etaStruct := .none)only[push_cast,zab,seval,hst,List.map_append,zcu]);(try(refine xsu ?_;try exact xtI))))
     ·(try(refine xst ?_;try exact xtI))
   ·obtain rfl:k=l.length:=by omega
    iterate 2(try simp(etaStruct := .none)only[push_cast,zab,seval,List.take_length];try refine xsu ?_)
    exact xrz rfl
end Go.Proofs.YtmjbgbmegbkmhaaGreat
namespace Go.Proofs.YtmjbgbmegbkmhaaGreat
set_option linter.all false
open Go.RowKit
set_option maxRecDepth 100000
set_option maxHeartbeats 1000000
theorem z7i (o:Ord) (b:List Blw) (g:List Gop) (d:List Ded) (h:o.kind=1) (hb:b.length≤1000) :
 Spec Tryz.prog 87 [.ptr 0 0 0,zpf o] [.blk 193 [.own 1,.own 2,.own 3],.row 261 2 (b.map zex),.row 263 3 (g.map zeu),.row 202 5 (d.map zmb)] (.tup [])
  [.blk 193 [.own 4,.own 2,.own 3],.dead,.row 263 3 (g.map zeu),.row 202 5 (d.map zmb),.row 261 2 ((b ++ [(⟨o.who,o.what⟩:Blw)]).map zex)]:=by
 refine spB Tryz.func87 84 [] Tryz.results87 ?_
 try refine xst ?_
 refine cI (fun h1 => ?_) fun h1 => ?_
 ·try refine xst ?_
  (try(refine⟨by kernel_rfl,?_⟩))
  try refine xst ?_
  refine zcc [0,1,2,3,49] rfl rfl (by decide) ⟨?_,?_,?_,?_,?_,trivial⟩ trivial ?_
  ·simp(etaStruct := .none)only[push_cast,zab,seval]
  ·simp(etaStruct := .none)only[push_cast,zab,seval]
  ·simp(etaStruct := .none)only[push_cast,zab,seval]
  ·simp(etaStruct := .none)only[push_cast,zab,seval]
  ·simp(etaStruct := .none)only[push_cast,zab,seval,List.map_append,zex]
  ·simp(etaStruct := .none)only[push_cast,zab,seval]
 ·omega
theorem yf3 (o:Ord) (b:List Blw) (g:List Gop) (d:List Ded) (h:o.kind=2) (hb:g.length≤1000) :
 Spec Tryz.prog 87 [.ptr 0 0 0,zpf o] [.blk 193 [.own 1,.own 2,.own 3],.row 261 2 (b.map zex),.row 263 3 (g.map zeu),.row 202 5 (d.map zmb)] (.tup [])
  [.blk 193 [.own 1,.own 4,.own 3],.row 261 2 (b.map zex),.dead,.row 202 5 (d.map zmb),.row 263 3 ((g ++ [(⟨o.who,o.c⟩:Gop)]).map zeu)]:=by
 refine spB Tryz.func87 84 [] Tryz.results87 ?_
 try refine xst ?_
 refine cI (fun h1 => ?_) fun h1 => ?_
 ·omega
 ·try refine xst ?_
  refine cI (fun h2 => ?_) fun h2 => ?_
  ·try refine xst ?_
   (try(refine⟨by kernel_rfl,?_⟩))
   try refine xst ?_
   refine zcc [0,1,2,3,49] rfl rfl (by decide) ⟨?_,?_,?_,?_,?_,trivial⟩ trivial ?_
   ·simp(etaStruct := .none)only[push_cast,zab,seval]
   ·simp(etaStruct := .none)only[push_cast,zab,seval]
   ·simp(etaStruct := .none)only[push_cast,zab,seval]
   ·simp(etaStruct := .none)only[push_cast,zab,seval]
   ·simp(etaStruct := .none)only[push_cast,zab,seval,List.map_append,zeu]
   ·simp(etaStruct := .none)only[push_cast,zab,seval]
  ·omega
theorem z7f (o:Ord) (b:List Blw) (g:List Gop) (d:List Ded) (h:o.kind=3) (hb:d.length≤1000) :
 Spec Tryz.prog 87 [.ptr 0 0 0,zpf o] [.blk 193 [.own 1,.own 2,.own 3],.row 261 2 (b.map zex),.row 263 3 (g.map zeu),.row 202 5 (d.map zmb)] (.tup [])
  [.blk 193 [.own 1,.own 2,.own 4],.row 261 2 (b.map zex),.row 263 3 (g.map zeu),.dead,.row 202 5 ((d ++ [(⟨1,o.who,o.c,0⟩:Ded)]).map zmb)]:=by
 refine spB Tryz.func87 84 [] Tryz.results87 ?_
 try refine xst ?_
 refine cI (fun h1 => ?_) fun h1 => ?_
 ·omega
 ·try refine xst ?_
  refine cI (fun h2 => ?_) fun h2 => ?_
  ·omega
  ·try refine xst ?_
   refine cI (fun h3 => ?_) fun h3 => ?_
   ·try refine xst ?_
    (try(refine⟨by kernel_rfl,?_⟩))
    try refine xst ?_
    refine zcc [0,1,2,3,49] rfl rfl (by decide) ⟨?_,?_,?_,?_,?_,trivial⟩ trivial ?_
    ·simp(etaStruct := .none)only[push_cast,zab,seval]
    ·simp(etaStruct := .none)only[push_cast,zab,seval]
    ·simp(etaStruct := .none)only[push_cast,zab,seval]
    ·simp(etaStruct := .none)only[push_cast,zab,seval]
    ·simp(etaStruct := .none)only[push_cast,zab,seval,List.map_append,zmb]
    ·simp(etaStruct := .none)only[push_cast,zab,seval]
   ·omega
theorem z7h (o:Ord) (b:List Blw) (g:List Gop) (d:List Ded) (h:o.kind=4) (hb:d.length≤1000) :
 Spec Tryz.prog 87 [.ptr 0 0 0,zpf o] [.blk 193 [.own 1,.own 2,.own 3],.row 261 2 (b.map zex),.row 263 3 (g.map zeu),.row 202 5 (d.map zmb)] (.tup [])
  [.blk 193 [.own 1,.own 2,.own 4],.row 261 2 (b.map zex),.row 263 3 (g.map zeu),.dead,.row 202 5 ((d ++ [(⟨2,o.who,⟨0,0⟩,0⟩:Ded)]).map zmb)]:=by
 refine spB Tryz.func87 84 [] Tryz.results87 ?_
 try refine xst ?_
 refine cI (fun h1 => ?_) fun h1 => ?_
 ·omega
 ·try refine xst ?_
  refine cI (fun h2 => ?_) fun h2 => ?_
  ·omega
  ·try refine xst ?_
   refine cI (fun h3 => ?_) fun h3 => ?_
   ·omega
   ·try refine xst ?_
    refine cI (fun h4 => ?_) fun h4 => ?_
    ·try refine xst ?_
     (try(refine⟨by kernel_rfl,?_⟩))
     try refine xst ?_
     refine zcc [0,1,2,3,41] rfl rfl (by decide) ⟨?_,?_,?_,?_,?_,trivial⟩ trivial ?_
     ·simp(etaStruct := .none)only[push_cast,zab,seval]
     ·simp(etaStruct := .none)only[push_cast,zab,seval]
     ·simp(etaStruct := .none)only[push_cast,zab,seval]
     ·simp(etaStruct := .none)only[push_cast,zab,seval]
     ·simp(etaStruct := .none)only[push_cast,zab,seval,List.map_append,zmb]
     ·simp(etaStruct := .none)only[push_cast,zab,seval]
    ·omega
theorem z7g (o:Ord) (b:List Blw) (g:List Gop) (d:List Ded) (h:o.kind=5) (hb:d.length≤1000) :
 Spec Tryz.prog 87 [.ptr 0 0 0,zpf o] [.blk 193 [.own 1,.own 2,.own 3],.row 261 2 (b.map zex),.row 263 3 (g.map zeu),.row 202 5 (d.map zmb)] (.tup [])
  [.blk 193 [.own 1,.own 2,.own 4],.row 261 2 (b.map zex),.row 263 3 (g.map zeu),.dead,.row 202 5 ((d ++ [(⟨3,o.by_,⟨0,0⟩,o.what⟩:Ded)]).map zmb)]:=by
 refine spB Tryz.func87 84 [] Tryz.results87 ?_
 try refine xst ?_
 refine cI (fun h1 => ?_) fun h1 => ?_
 ·omega
 ·try refine xst ?_
  refine cI (fun h2 => ?_) fun h2 => ?_
  ·omega
  ·try refine xst ?_
   refine cI (fun h3 => ?_) fun h3 => ?_
   ·omega
   ·try refine xst ?_
    refine cI (fun h4 => ?_) fun h4 => ?_
    ·omega
    ·try refine xst ?_
     refine cI (fun h5 => ?_) fun h5 => ?_
     ·try refine xst ?_
      (try(refine⟨by kernel_rfl,?_⟩))
      try refine xst ?_
      refine zcc [0,1,2,3,49] rfl rfl (by decide) ⟨?_,?_,?_,?_,?_,trivial⟩ trivial ?_
      ·simp(etaStruct := .none)only[push_cast,zab,seval]
      ·simp(etaStruct := .none)only[push_cast,zab,seval]
      ·simp(etaStruct := .none)only[push_cast,zab,seval]
      ·simp(etaStruct := .none)only[push_cast,zab,seval]
      ·simp(etaStruct := .none)only[push_cast,zab,seval,List.map_append,zmb]
      ·simp(etaStruct := .none)only[push_cast,zab,seval]
     ·omega
def OwnM (w:Wld) (k:Nat) (es:List (List Int × Int)):Prop:=(∀i:Int,zlk [i] es=(w.troops.take k).any fun t=>decide (t.id=i))∧∀j,j<k→zc2 [(w.troops.getD j default).id] es=(w.troops.getD j default).owner
theorem OwnM.step {w:Wld} (hw:zam w=0) {k:Nat} {es:List (List Int × Int)} (h:OwnM w k es) (hk:k<w.troops.length):OwnM w (k+1) (zgh [(w.troops.getD k default).id] (w.troops.getD k default).owner es):=by
 refine⟨fun i => ?_,fun j hj => ?_⟩
 ·rw[zlj,zan _ _ hk,List.any_append,h.1 i]
  simp only[List.any_cons,List.any_nil,Bool.or_false,List.cons.injEq,and_true]
  by_cases hi:i=(w.troops.getD k default).id
  ·rw[if_pos hi,decide_eq_true hi.symm,Bool.or_true]
  ·rw[if_neg hi,decide_eq_false (Ne.symm hi),Bool.or_false]
 ·rw[zb5]
  by_cases hjk:j=k
  ·subst hjk;rw[if_pos rfl]
  ·have h2:=(ze9 hw hk).2
   unfold z7s at h2
   rw[zpb,Bool.and_eq_true]at h2
   have:=(zbd _ _).1 h2.1 j (by omega)
   rw[decide_eq_true_eq]at this
   rw[if_neg (fun h=>by have:=(List.cons.inj h).1;omega)]
   exact h.2 j (by omega)
theorem OwnM.find {w:Wld} {es:List (List Int × Int)} (h:OwnM w w.troops.length es) (i b:Int):(zlk [i] es&&decide (zc2 [i] es=b))=match zda w i with|some t=>decide (t.owner=b)|none=>false:=by
 have h1:=h.1 i
 rw[List.take_length]at h1
 unfold zda
 cases hf:w.troops.find? (fun t=>decide (t.id=i))with
 | none =>
  have:(w.troops.any fun t=>decide (t.id=i))=false:=by
   rw[List.any_eq_false];intro x hx;simpa using List.find?_eq_none.1 hf x hx
  rw[h1,this];rfl
 | some t =>
  have hm:=List.mem_of_find?_eq_some hf
  have hp:=List.find?_some hf
  rw[decide_eq_true_eq]at hp
  have:(w.troops.any fun t=>decide (t.id=i))=true:=by
   rw[List.any_eq_true];exact⟨t,hm,by simpa using hp⟩
  obtain⟨j,hj,rfl⟩:=List.getElem_of_mem hm
  have h2:=h.2 j hj
  rw[zac _ _ hj,hp]at h2
  rw[h1,this,h2];rfl
def zb4 (l:List Ord) (w:Wld):Int:=if zc6 l≠0 then zc6 l else zam w
theorem zpd {o:Ord} (h:o.kind≠1):z3w o = []:=by unfold z3w;rw[if_neg h]
theorem zpc {o:Ord} (h:o.kind≠2):z3v o = []:=by unfold z3v;rw[if_neg h]
theorem z3o {o:Ord} (h:¬2<o.kind):zw1 o = []:=by unfold zw1;rw[if_neg h]
theorem yf9 {o:Ord} (h:o.kind=1):z3w o = [⟨o.who,o.what⟩]:=by unfold z3w;rw[if_pos h]
theorem yf5 {o:Ord} (h:o.kind=2):z3v o = [⟨o.who,o.c⟩]:=by unfold z3v;rw[if_pos h]
theorem yf8 {o:Ord} (ho:zer o=0) (h:o.kind=3):zw1 o = [⟨1,o.who,o.c,0⟩]:=by
 have:=zfa ho
 unfold zw1 z6v;rw[if_pos (by omega),h,if_neg (by decide),this.2.2.2.2.2.2.2 (by omega) (by omega)];rfl
theorem yf7 {o:Ord} (ho:zer o=0) (h:o.kind=4):zw1 o = [⟨2,o.who,⟨0,0⟩,0⟩]:=by
 have:=zfa ho
 unfold zw1 z6v;rw[if_pos (by omega),h,if_neg (by decide),this.2.2.2.2.2.2.2 (by omega) (by omega),this.2.2.2.2.2.2.1 (by omega) (by omega)];rfl
theorem yf6 {o:Ord} (ho:zer o=0) (h:o.kind=5):zw1 o = [⟨3,o.by_,⟨0,0⟩,o.what⟩]:=by
 have:=zfa ho
 unfold zw1 z6v;rw[if_pos (by omega),h,if_pos rfl,this.2.2.2.2.2.2.1 (by omega) (by omega)];rfl
theorem zzv (l:List Ord) (w:Wld) (hll:l.length≤9223372036854775807) (hl:ze8 w) (h:zb4 l w≠0):Spec Tryz.prog 46 [.c (.sl 6 (l.map zd4)),zcx w] [] (.tup [.c (.v (.slice none 0 0)),.c (.v (.slice none 0 0)),.c (.v (.slice none 0 0)),I .i64 (zb4 l w)]) []:=by
 refine spB Tryz.func46 82 [.tmp 4,.tmp 5,.tmp 6,.tmp 7] Tryz.results46 ?_
 try refine xst ?_
 refine caP (zvb l hll) ?_
 try refine xst ?_
 refine cI (fun h1 => ?_) fun h1 => ?_
 ·have e:zb4 l w=zc6 l:=by unfold zb4;rw[if_pos h1]
  try refine xst ?_
  (first|(refine zar rfl (Wk.of ?_);(try simp(etaStruct := .none)only[push_cast,zab,seval]);first|done|(simp[e, *];done)|(simp_all[e];done))|(refine zar rfl ?_;(try simp(etaStruct := .none)only[push_cast,zab,seval]);(try simp[e, *]);(try exact wkc)))
 ·try refine xst ?_
  refine caP (zdw w hl) ?_
  try refine xst ?_
  refine cI (fun h2 => ?_) fun h2 => ?_
  ·have e:zb4 l w=zam w:=by unfold zb4;rw[if_neg (by simpa using h1)]
   try refine xst ?_
   (first|(refine zar rfl (Wk.of ?_);(try simp(etaStruct := .none)only[push_cast,zab,seval]);first|done|(simp[e, *];done)|(simp_all[e];done))|(refine zar rfl ?_;(try simp(etaStruct := .none)only[push_cast,zab,seval]);(try simp[e, *]);(try exact wkc)))
  ·exact absurd (by unfold zb4;rw[if_neg (by simpa using h1)];exact h2) h
theorem zzu (l:List Ord) (w:Wld) (hll:l.length≤9223372036854775807) (hl:ze8 w) (ho:zc6 l=0) (hw:zam w=0):Spec Tryz.prog 46 [.c (.sl 6 (l.map zd4)),zcx w] [] (.tup [.c (.sl 2 ((zcq l w).map zex)),.c (.sl 3 ((ze5 l w).map zeu)),.c (.sl 5 ((zcg l w).map zmb)),I .i64 0]) []:=by
 obtain⟨ho1,ho2⟩:=zgg ho
 obtain⟨w1,w2,w3,w4,w5⟩:=zdd hw
 refine spB Tryz.func46 82 [.tmp 4,.tmp 5,.tmp 6,.tmp 7] Tryz.results46 ?_
 try refine xst ?_
 refine caP (zvb l hll) ?_
 try refine xst ?_
 refine cI (fun h1 => ?_) fun h1 => ?_
 ·exact absurd ho h1
 ·try refine xst ?_
  refine caP (zdw w hl) ?_
  try refine xst ?_
  refine cI (fun h2 => ?_) fun h2 => ?_
  ·exact absurd hw h2
  ·try refine xst ?_
   refine zaw (fun x:Nat × List (List Int × Int)=>⟨[(32,I .i64 x.1),(31,I .i64 w.troops.length),(30,.c (.sl 7 (w.troops.map zat))),(10,.map 1),(3,.ptr 0 0 0),(0,.c (.sl 6 (l.map zd4)))],[(0,.blk 28 (zkg w)),(1,.mp false 1 x.2)],2⟩) (fun x:Nat × List (List Int × Int)=>x.1≤w.troops.length∧OwnM w x.1 x.2) (fun x:Nat × List (List Int × Int)=>w.troops.length-x.1) ((0,[])) (⟨Nat.zero_le _,fun i=>rfl,fun j h=>absurd h (Nat.not_lt_zero _)⟩) (To.mk [0,1] rfl rfl (by decide) ?_ ?_) ?_
   ·simp(etaStruct := .none)only[push_cast,zab,seval]
   ·simp(etaStruct := .none)only[push_cast,zab,seval]
   rintro⟨k,es⟩ ⟨hk,hn⟩
   simp only at hk hn
   try refine xst ?_
   refine cI (fun h3 => ?_) fun h3 => ?_
   ·have hlt:k<w.troops.length:=by omega
    try refine xz2 (gd hlt) zav ?_
    refine⟨(k+1,zgh [(w.troops.getD k default).id] (w.troops.getD k default).owner es),⟨by simp only;omega,hn.step hw hlt⟩,by simp only;omega,To.mk [0,1] rfl rfl (by decide) ?_ ?_⟩
    ·(try(refine xz2 (gd hlt) zav ?_;try exact xtI))
    ·(try(refine xz2 (gd hlt) zav ?_;try exact xtI))
   ·obtain rfl:k=w.troops.length:=by omega
    have of:=hn.find
    try refine xst ?_
    refine zaw (fun k:Nat=>⟨[(44,I .i64 k),(43,I .i64 l.length),(42,.c (.sl 6 (l.map zd4))),(13,.ptr 2 0 0),(10,.map 1),(3,.ptr 0 0 0)],[(0,.blk 28 (zkg w)),(1,.mp false 1 es),(2,.blk 193 [.own 3,.own 4,.own 5]),(3,.row 261 2 ((zcq (l.take k) w).map zex)),(4,.row 263 3 ((ze5 (l.take k) w).map zeu)),(5,.row 202 5 ((zcg (l.take k) w).map zmb))],6⟩) (fun k:Nat=>k≤l.length) (fun k:Nat=>l.length-k) (0) (Nat.zero_le _) (((To.nilC 2 0 261 2 193 _ rfl rfl).trans ((To.nilC 2 1 263 3 193 _ rfl rfl).trans (To.nilC 2 2 202 5 193 _ rfl rfl))).trans (To.mk [0,1,2,3,4,5] rfl rfl (by decide) ?_ ?_)) ?_
    ·simp(etaStruct := .none)only[push_cast,zab,seval,List.set_cons_zero,List.set_cons_succ,zcq,ze5,zcg,List.filter_nil,List.flatMap_nil]
    ·simp(etaStruct := .none)only[push_cast,zab,seval]
    rintro k hk
    try refine xst ?_
    refine cI (fun h4 => ?_) fun h4 => ?_
    ·have hlt:k<l.length:=by omega
     have hor:=ho2 _ (zaz l k hlt)
     have hok:=zfa hor
     have st1:=zl1 (fun o=>zdn o w) z3w l k hlt
     have st2:=zl1 (fun o=>zdn o w) z3v l k hlt
     have st3:=zl1 (fun o=>zdn o w) zw1 l k hlt
     have fl1:=zfk (fun o=>zdn o w) z3w zw2 (l.take k)
     have fl2:=zfk (fun o=>zdn o w) z3v zwz (l.take k)
     have fl3:=zfk (fun o=>zdn o w) zw1 zw0 (l.take k)
     rw[List.length_take]at fl1 fl2 fl3
     change zcq (l.take (k+1)) w=zcq (l.take k) w++_ at st1
     change ze5 (l.take (k+1)) w=ze5 (l.take k) w++_ at st2
     change zcg (l.take (k+1)) w=zcg (l.take k) w++_ at st3
     change (zcq (l.take k) w).length≤_ at fl1
     change (ze5 (l.take k) w).length≤_ at fl2
     change (zcg (l.take k) w).length≤_ at fl3
     try refine xz2 (gd hlt) zb3 ?_
     refine znj (fun x:Int × Bool=>⟨[(44,I .i64 k),(43,I .i64 l.length),(42,.c (.sl 6 (l.map zd4))),(17,B x.2),(16,I .i64 x.1),(15,.ptr 6 0 0),(13,.ptr 2 0 0),(10,.map 1),(3,.ptr 0 0 0)],[(0,.blk 28 (zkg w)),(1,.mp false 1 es),(2,.blk 193 [.own 3,.own 4,.own 5]),(3,.row 261 2 ((zcq (l.take k) w).map zex)),(4,.row 263 3 ((ze5 (l.take k) w).map zeu)),(5,.row 202 5 ((zcg (l.take k) w).map zmb)),(6,.blk 48 [I .i64 (l.getD k default).by_,I .i64 (l.getD k default).kind,I .i64 (l.getD k default).who,I .i64 (l.getD k default).c.x,I .i64 (l.getD k default).c.y,I .i64 (l.getD k default).what])],7⟩) (fun x:Int × Bool=>(x.2&&decide (x.1=(l.getD k default).by_))=zdn (l.getD k default) w) (fun h5 => ?_) (fun h5 => ?_) ?_
     ·(try replace h5:=xhh h5)
      try refine xz2 (gd hlt) zb3 ?_
      (try(refine⟨by kernel_rfl,?_⟩))
      try refine xz2 (gd hlt) zb3 ?_
      refine⟨((l.getD k default).by_,decide ((l.getD k default).by_<w.bases.length)),by unfold zdn;rw[if_pos h5];simp,To.mk [0,1,2,3,4,5,6] rfl rfl (by decide) ?_ ?_⟩
      ·(try(refine xz2 (gd hlt) zb3 ?_;try exact xtI))
      ·(try(refine xz2 (gd hlt) zb3 ?_;try exact xtI))
     ·(try replace h5:=xhh h5)
      try refine xz2 (gd hlt) zb3 ?_
      refine⟨(zc2 [(l.getD k default).who] es,zlk [(l.getD k default).who] es),by rw[of];unfold zdn;rw[if_neg h5];cases zda w (l.getD k default).who<;>rfl,To.mk [0,1,2,3,4,5,6] rfl rfl (by decide) ?_ ?_⟩
      ·(try(refine xz2 (gd hlt) zb3 ?_;try exact xtI))
      ·(try(refine xz2 (gd hlt) zb3 ?_;try exact xtI))
     ·rintro⟨by1,ok1⟩ hx
      simp only at hx
      try refine xz2 (gd hlt) zb3 ?_
      refine cI (fun h6 => ?_) fun h6 => ?_
      ·have ha:zdn (l.getD k default) w=true:=by rw[←hx];simp only[h6.1,h6.2,decide_true,Bool.and_self]
       rw[if_pos ha]at st1 st2 st3
       try refine xz2 (gd hlt) zb3 ?_
       have hkind:(l.getD k default).kind=1∨(l.getD k default).kind=2∨(l.getD k default).kind=3∨(l.getD k default).kind=4∨(l.getD k default).kind=5:=by omega
       rcases hkind with h|h|h|h|h
       ·rw[yf9 h]at st1;rw[zpc (by omega)]at st2;rw[z3o (by omega)]at st3
        refine zfv [2,3,4,5] (z7i (l.getD k default) (zcq (l.take k) w) (ze5 (l.take k) w) (zcg (l.take k) w) h (by omega)) (WkL.refl _) rfl (by decide) (by simp[zbw]) ?_
        try refine xz2 (gd hlt) zb3 ?_
        refine⟨k+1,by omega,by omega,To.mk [0,1,2,7,4,5] rfl rfl (by decide) ?_ ?_⟩
        ·(iterate 2((try simp(etaStruct := .none)only[push_cast,zab,seval,st1,st2,st3,List.append_nil,List.map_append,zex]);(try(refine xsu ?_;try exact xtI))))
        ·(try(refine xst ?_;try exact xtI))
       ·rw[zpd (by omega)]at st1;rw[yf5 h]at st2;rw[z3o (by omega)]at st3
        refine zfv [2,3,4,5] (yf3 (l.getD k default) (zcq (l.take k) w) (ze5 (l.take k) w) (zcg (l.take k) w) h (by omega)) (WkL.refl _) rfl (by decide) (by simp[zbw]) ?_
        try refine xz2 (gd hlt) zb3 ?_
        refine⟨k+1,by omega,by omega,To.mk [0,1,2,3,7,5] rfl rfl (by decide) ?_ ?_⟩
        ·(iterate 2((try simp(etaStruct := .none)only[push_cast,zab,seval,st1,st2,st3,List.append_nil,List.map_append,zeu]);(try(refine xsu ?_;try exact xtI))))
        ·(try(refine xst ?_;try exact xtI))
       ·rw[zpd (by omega)]at st1;rw[zpc (by omega)]at st2;rw[yf8 hor h]at st3
        refine zfv [2,3,4,5] (z7f (l.getD k default) (zcq (l.take k) w) (ze5 (l.take k) w) (zcg (l.take k) w) h (by omega)) (WkL.refl _) rfl (by decide) (by simp[zbw]) ?_
        try refine xz2 (gd hlt) zb3 ?_
        refine⟨k+1,by omega,by omega,To.mk [0,1,2,3,4,7] rfl rfl (by decide) ?_ ?_⟩
        ·(iterate 2((try simp(etaStruct := .none)only[push_cast,zab,seval,st1,st2,st3,List.append_nil,List.map_append,zmb]);(try(refine xsu ?_;try exact xtI))))
        ·(try(refine xst ?_;try exact xtI))
       ·rw[zpd (by omega)]at st1;rw[zpc (by omega)]at st2;rw[yf7 hor h]at st3
        refine zfv [2,3,4,5] (z7h (l.getD k default) (zcq (l.take k) w) (ze5 (l.take k) w) (zcg (l.take k) w) h (by omega)) (WkL.refl _) rfl (by decide) (by simp[zbw]) ?_
        try refine xz2 (gd hlt) zb3 ?_
        refine⟨k+1,by omega,by omega,To.mk [0,1,2,3,4,7] rfl rfl (by decide) ?_ ?_⟩
        ·(iterate 2((try simp(etaStruct := .none)only[push_cast,zab,seval,st1,st2,st3,List.append_nil,List.map_append,zmb]);(try(refine xsu ?_;try exact xtI))))
        ·(try(refine xst ?_;try exact xtI))
       ·rw[zpd (by omega)]at st1;rw[zpc (by omega)]at st2;rw[yf6 hor h]at st3
        refine zfv [2,3,4,5] (z7g (l.getD k default) (zcq (l.take k) w) (ze5 (l.take k) w) (zcg (l.take k) w) h (by omega)) (WkL.refl _) rfl (by decide) (by simp[zbw]) ?_
        try refine xz2 (gd hlt) zb3 ?_
        refine⟨k+1,by omega,by omega,To.mk [0,1,2,3,4,7] rfl rfl (by decide) ?_ ?_⟩
        ·(iterate 2((try simp(etaStruct := .none)only[push_cast,zab,seval,st1,st2,st3,List.append_nil,List.map_append,zmb]);(try(refine xsu ?_;try exact xtI))))
        ·(try(refine xst ?_;try exact xtI))
      ·have ha:zdn (l.getD k default) w=false:=by
        rw[←hx]
        rcases h6 with h|h
        ·rw[h];rfl
        ·rw[decide_eq_false h,Bool.and_false]
       rw[ha]at st1 st2 st3
       simp only[Bool.false_eq_true,if_false,List.append_nil]at st1 st2 st3
       try refine xz2 (gd hlt) zb3 ?_
       refine⟨k+1,by omega,by omega,To.mk [0,1,2,3,4,5] rfl rfl (by decide) ?_ ?_⟩
       ·(try(refine xz3 st1 st2 st3 ?_;try exact xtI))
       ·(try(refine xz2 (gd hlt) zb3 ?_;try exact xtI))
    ·obtain rfl:k=l.length:=by omega
     iterate 2(try simp(etaStruct := .none)only[push_cast,zab,seval,List.take_length];try refine xsu ?_)
     (try(refine⟨by kernel_rfl,?_⟩))
     iterate 2(try simp(etaStruct := .none)only[push_cast,zab,seval,List.take_length];try refine xsu ?_)
     exact xrz rfl
end Go.Proofs.YtmjbgbmegbkmhaaGreat
namespace Go.Proofs.YtmjbgbmegbkmhaaGreat
set_option linter.all false
open Go.RowKit
set_option maxRecDepth 100000
theorem z21 (w:Wld) (d:Ded):(zfu w d).1.now=w.now:=by
 unfold zfu
 repeat' split
 all_goals rfl
theorem zyp (l:List Ded):∀w,(za9 w l).1.now=w.now:=by
 induction l with
 | nil=>intro w;rfl
 | cons a r ih=>intro w;rw[za9,ih,z21]
def tkA (w:Wld) (l:List Ord):Wld:=zeo w (zcq l w)
def tkB (WR:Cel→List Int) (w:Wld) (l:List Ord):Wld:=zz3 (tkA w l) (zgz w.f WR (ze5 l w) (tkA w l).troops).1
def tkC (WR:Cel→List Int) (w:Wld) (l:List Ord):Wld:=(za9 (tkB WR w l) (zcg l w)).1
def zgt (w:Wld):Wld:={ w with now:=w.now+1 }
def zd6 (WR:Cel→List Int) (w:Wld) (l:List Ord):Wld:=zgt (tkC WR w l)
def z87 (w:Wld) (l:List Ord):List Int:=z6c w (zcq l w)
def z86 (WR:Cel→List Int) (w:Wld) (l:List Ord):List Int:=(zgz w.f WR (ze5 l w) (tkA w l).troops).2
def z88 (WR:Cel→List Int) (w:Wld) (l:List Ord):List Bool:=(za9 (tkB WR w l) (zcg l w)).2
def zbo (l:List Ord) (w:Wld):Int:=if zb4 l w≠0 then zb4 l w else if 1000000≤w.now then 6 else 0
theorem zez {l:List Ord} {w:Wld} (h:zb4 l w=0):zc6 l=0∧zam w=0:=by
 have ho:zc6 l=0:=by
  unfold zb4 at h
  split at h
  ·rename_i h1;exact absurd h h1
  ·rename_i h1;simpa using h1
 exact⟨ho,by unfold zb4 at h;rwa [if_neg (by simp[ho])]at h⟩
theorem zxc {l:List Ord} {w:Wld} (h:zc6 l=0):(zcq l w).length≤100∧(ze5 l w).length≤100∧(zcg l w).length≤100:=by
 obtain⟨o1,o2⟩:=zgg h
 have f1:=zfk (fun o=>zdn o w) z3w zw2 l
 have f2:=zfk (fun o=>zdn o w) z3v zwz l
 have f3:=zfk (fun o=>zdn o w) zw1 zw0 l
 change (zcq l w).length≤_ at f1
 change (ze5 l w).length≤_ at f2
 change (zcg l w).length≤_ at f3
 omega
theorem zp9 {w:Wld} (h:Right w) (l:List Ord):Right (tkA w l):=zqa h _ fun id=>(z2b w _ id).1
theorem zp8 {w:Wld} (h:Right w) {WR:Cel→List Int} (hWR:∀a,zas w.f [a] (WR a)) (l:List Ord):Right (tkB WR w l):=zn3 (w:=tkA w l) (zp9 h l) hWR _
theorem zp7 {w:Wld} (h:Right w) {WR:Cel→List Int} (hWR:∀a,zas w.f [a] (WR a)) (l:List Ord):Right (tkC WR w l):=zk5 _ (zp8 h hWR l)
theorem zzq (WR:Cel→List Int) (w:Wld) (l:List Ord):(tkC WR w l).now=w.now:=by unfold tkC;rw[zyp];rfl
theorem zha {w:Wld} (h:Right w) (hn:w.now<1000000):Right (zgt w):=by
 have:=h.nw
 refine⟨h.f,h.nb,h.nt,h.sl,h.ml,h.nx,?_,h.base,h.mine,fun k hk => ?_,h.ord⟩
 ·change 0≤w.now+1∧w.now+1≤1000000;omega
 ·have t:=h.trp k hk
  exact⟨t.kind,t.id,t.owner,t.at_,t.x,t.y,t.life,t.load⟩
theorem zis {w:Wld} (h:Right w) {WR:Cel→List Int} (hWR:∀a,zas w.f [a] (WR a)) (l:List Ord) (hn:w.now<1000000):Right (zd6 WR w l):=zha (zp7 h hWR l) (by rw[zzq];exact hn)
end Go.Proofs.YtmjbgbmegbkmhaaGreat
namespace Go.Proofs.YtmjbgbmegbkmhaaGreat
set_option linter.all false
open Go.RowKit
set_option maxRecDepth 100000
set_option maxHeartbeats 1000000
abbrev ygi (g m:List Int) (d:List Bool):AV := .agg [.c (.sl 1 (g.map zad)),.c (.sl 1 (m.map zad)),.c (.sl 1 (d.map zcu))]
theorem z89 (w:Wld) (l:List Ord) (WR:Cel→List Int) (hWR:∀a,zas w.f [a] (WR a)) (hll:l.length≤9223372036854775807) (h:zbo l w=0):Spec Tryz.prog 14 [zcx w,.c (.sl 6 (l.map zd4))] [] (.tup [zcx (zd6 WR w l),ygi (z87 w l) (z86 WR w l) (z88 WR w l),I .i64 0]) []:=by
 have hs:zb4 l w=0:=by unfold zbo at h;split at h;rename_i h1;exact absurd h h1;rename_i h1;simpa using h1
 have hn:w.now<1000000:=by unfold zbo at h;rw[if_neg (by simp[hs])]at h;split at h;exact absurd h (by decide);omega
 obtain⟨ho,hw⟩:=zez hs
 have R0:=zcn hw
 have RA:=zp9 R0 l
 have RB:=zp8 R0 hWR l
 have RC:=zp7 R0 hWR l
 obtain⟨n1,n2,n3⟩:=zxc (w:=w) ho
 have hnow:(tkC WR w l).now=w.now:=zzq WR w l
 have hnw:=R0.nw
 have e1:zbj w (zcq l w)=0:=by unfold zbj;rw[if_neg (by simp[hw]),if_neg (by omega)]
 have HK:=zq7 w (zcq l w) R0.l (by omega) e1
 rw[e1,show zep w (zcq l w)=tkA w l from by unfold zep;rw[if_pos e1];rfl,show zra w (zcq l w)=z87 w l from by unfold zra;rw[if_pos e1];rfl]at HK
 have e2:zkt (tkA w l) (ze5 l w)=0:=by unfold zkt;rw[if_neg (by simp[RA.e]),if_neg (by omega)]
 have MK:=z5r (tkA w l) (ze5 l w) WR hWR RA.l (by omega)
 rw[e2,if_pos rfl,if_pos rfl,show zz3 (tkA w l) (zgz (tkA w l).f WR (ze5 l w) (tkA w l).troops).1=tkB WR w l from rfl,show (zgz (tkA w l).f WR (ze5 l w) (tkA w l).troops).2=z86 WR w l from rfl]at MK
 have DK:=yk2 (tkB WR w l) (zcg l w) RB (by omega)
 rw[show (za9 (tkB WR w l) (zcg l w)).1=tkC WR w l from rfl,show (za9 (tkB WR w l) (zcg l w)).2=z88 WR w l from rfl]at DK
 have hup:IntKind.i64.wrap ((tkC WR w l).now+1)=w.now+1:=by rw[hnow];exact zak _ (by omega) (by omega)
 have htv:zd6 WR w l = { tkC WR w l with now:=w.now+1 }:=by unfold zd6 zgt;rw[hnow]
 rw[htv]
 refine spB Tryz.func14 62 [.cell 4 28,.cell 5 63,.tmp 6] Tryz.results14 ?_
 try refine xst ?_
 refine caP (zzu l w hll R0.l ho hw) ?_
 try refine xst ?_
 refine cI (fun h1 => ?_) fun h1 => ?_
 ·omega
 ·try refine xst ?_
  refine cI (fun h2 => ?_) fun h2 => ?_
  ·simp at h2
  ·iterate 2(try simp(etaStruct := .none)only[push_cast,zab,seval,hup];try refine xsu ?_)
   refine caP (HK) ?_
   iterate 2(try simp(etaStruct := .none)only[push_cast,zab,seval,hup];try refine xsu ?_)
   refine caP (MK) ?_
   iterate 2(try simp(etaStruct := .none)only[push_cast,zab,seval,hup];try refine xsu ?_)
   refine caP (DK) ?_
   iterate 2(try simp(etaStruct := .none)only[push_cast,zab,seval,hup];try refine xsu ?_)
   (try(refine⟨by kernel_rfl,?_⟩))
   iterate 2(try simp(etaStruct := .none)only[push_cast,zab,seval,hup];try refine xsu ?_)
   exact xrz rfl
theorem z9b (w:Wld) (l:List Ord) (hl:ze8 w) (hll:l.length≤9223372036854775807) (h:zb4 l w≠0):Spec Tryz.prog 14 [zcx w,.c (.sl 6 (l.map zd4))] [] (.tup [zcx default,ygi [] [] [],I .i64 (zb4 l w)]) []:=by
 refine spB Tryz.func14 62 [.cell 4 28,.cell 5 63,.tmp 6] Tryz.results14 ?_
 try refine xst ?_
 refine caP (zzv l w hll hl h) ?_
 try refine xst ?_
 refine cI (fun h1 => ?_) fun h1 => ?_
 ·exact absurd h1.1 h
 ·try refine xst ?_
  refine cI (fun h2 => ?_) fun h2 => ?_
  ·try refine xst ?_
   exact xrz rfl
  ·exact absurd h2 h
theorem z9a (w:Wld) (l:List Ord) (hl:ze8 w) (hll:l.length≤9223372036854775807) (hs:zb4 l w=0) (hn:1000000≤w.now):Spec Tryz.prog 14 [zcx w,.c (.sl 6 (l.map zd4))] [] (.tup [zcx default,ygi [] [] [],I .i64 6]) []:=by
 obtain⟨ho,hw⟩:=zez hs
 refine spB Tryz.func14 62 [.cell 4 28,.cell 5 63,.tmp 6] Tryz.results14 ?_
 try refine xst ?_
 refine caP (zzu l w hll hl ho hw) ?_
 try refine xst ?_
 refine cI (fun h1 => ?_) fun h1 => ?_
 ·try refine xst ?_
  refine cI (fun h2 => ?_) fun h2 => ?_
  ·try refine xst ?_
   exact xrz rfl
  ·simp at h2
 ·omega
theorem z1w {α : Type} {p : α → Bool} {l:List α} (h:zh9 p l = -1) (x : α) (hx:x∈l):p x=false:=by
 unfold zh9 at h
 split at h
 ·rename_i hf
  exact List.findIdx?_eq_none_iff.1 hf x hx
 ·omega
theorem z1v {α : Type} [Inhabited α] {p : α → Bool} {l:List α} (h:¬zh9 p l = -1):∃i:Nat,zh9 p l=(i:Int)∧i<l.length∧p (l.getD i default)=true∧(l.take (i+1)).filter (fun y => !p y)=l.take i:=by
 unfold zh9 at h ⊢
 split
 ·rename_i hf
  rw[hf]at h;exact absurd rfl h
 ·rename_i i hf
  obtain⟨hi,h1,h2⟩:=List.findIdx?_eq_some_iff_getElem.1 hf
  refine⟨i,rfl,hi,by rw[zac _ _ hi];exact h1,?_⟩
  rw[zan l i hi,List.filter_append,zac _ _ hi,List.filter_cons,h1]
  simp only[Bool.not_true,Bool.false_eq_true,if_false,List.filter_nil,List.append_nil]
  refine List.filter_eq_self.2 fun x hx => ?_
  obtain⟨j,hj,rfl⟩:=List.getElem_of_mem hx
  rw[List.getElem_take]
  have:=h2 j (by simp at hj;omega)
  simpa using this
theorem zwh {α : Type} [Inhabited α] (l:List α) (j:Nat) (h:j<l.length):l.drop j=l.getD j default::l.drop (j+1):=by
 rw[zac _ _ h];exact List.drop_eq_getElem_cons h
theorem yi8 {α : Type} [Inhabited α] (l:List α) (i:Nat) (h:i<l.length):l.take i ++ [l.getD i default]++l.drop (i+1)=l:=by
 rw[List.append_assoc,List.singleton_append,←zwh l i h,List.take_append_drop]
theorem yi7 {α : Type} (l:List α) (i:Nat) (h:i<l.length):(l.take i).length=i:=by rw[List.length_take];omega
theorem ybz {α : Type} [Inhabited α] (l fl mid:List α) (j:Nat) (hlen:fl.length+mid.length=j) (h:j<l.length):(fl++mid++l.drop j).getD j default=l.getD j default:=by
 rw[zac _ _ (by simp;omega),List.getElem_append_right (by simp;omega),zac _ _ h,List.getElem_drop]
 congr 1;simp;omega
theorem z9c (F:FuncId) (a b:List AV) (l:List Trp) (p:Trp→Bool) (hl:l.length≤1000000) (hp:∀n∈l,Spec Tryz.prog F (a ++ [z7r n]++b) [] (B (p n)) []) (ha:∀h,cvL [] h a=a) (hb:∀h,cvL [] h b=b) (ha0:∀h,cvL [0] h a=a) (hb0:∀h,cvL [0] h b=b) :
 Spec Tryz.prog 43 [.own 0,.clo (.func F) a b] [.row 108 7 (l.map zat)] (.c (.sl 7 ((l.filter (fun x => !p x)).map zat))) [.dead]:=by
 refine spB Tryz.func43 42 [.tmp 4] Tryz.results43 ?_
 try refine xst ?_
 refine zcl (zt9 F a b l p (by omega) hp ha hb) (by simp only[ha,hb,cvL,cv];exact WkL.refl _) rfl ?_
 try refine xst ?_
 refine cI (fun h1 => ?_) fun h1 => ?_
 ·have hf:l.filter (fun x => !p x)=l:=List.filter_eq_self.2 fun x hx=>by
   have:=z1w (p:=p) (l:=l) h1 x hx
   rw[this];rfl
  try refine xst ?_
  refine zmg (To.frz [0]) ?_
  simp(etaStruct := .none)only[push_cast,zab,seval]
  refine zcc [0] rfl rfl (by decide) ⟨?_,trivial⟩ trivial ?_<;>simp(etaStruct := .none)only[push_cast,zab,seval,hf]
 ·obtain⟨i,hi,hil,hip,hfi⟩:=z1v (p:=p) (l:=l) h1
  try refine xz1 hi ?_
  refine zaw (fun x:Nat × List Trp=>⟨[(6,I .i64 x.1),(5,I .i64 ((l.take x.1).filter (fun y => !p y)).length),(1,.clo (.func F) a b),(0,.own 0)],[(0,.row 108 7 ((((l.take x.1).filter (fun y => !p y))++x.2++l.drop x.1).map zat))],1⟩) (fun x:Nat × List Trp=>x.1≤l.length∧0<x.2.length∧((l.take x.1).filter (fun y => !p y)).length+x.2.length=x.1) (fun x:Nat × List Trp=>l.length-x.1) ((i+1,[l.getD i default])) (⟨by simp only;omega,by simp,by simp only;rw[hfi];simp;omega⟩) (To.mk [0] rfl rfl (by decide) ?_ ?_) ?_
  ·simp(etaStruct := .none)only[push_cast,zab,seval,hfi]
   rw[yi8 l i hil]
  ·(iterate 2((try simp(etaStruct := .none)only[push_cast,zab,seval,hfi,ha0,hb0,yi7 l i hil]);(try(refine xsu ?_;try exact xtI))))
  rintro⟨j,mid⟩ ⟨hj,hm,hlen⟩
  simp only at hj hm hlen
  obtain⟨fl,hfl⟩:∃fl,fl=(l.take j).filter (fun y => !p y):=⟨_,rfl⟩
  rw[←hfl]at hlen
  have hrl:(fl++mid++l.drop j).length=l.length:=by simp;omega
  try refine xz3 hi hfl.symm hrl ?_
  refine cI (fun h2 => ?_) fun h2 => ?_
  ·have hlt:j<l.length:=by omega
   have hjr:j<(fl++mid++l.drop j).length:=by omega
   have hgj:(fl++mid++l.drop j).getD j default=l.getD j default:=ybz l fl mid j hlen hlt
   have hts:=zan l j hlt
   have hds:=zwh l j hlt
   try refine xz6 hi hfl.symm hrl (gd hjr) hgj zav ?_
   refine zdl (hp (l.getD j default) (zaz l j hlt)) (by simp only[ha,hb,zdb,cvL,cv];exact WkL.refl _) ?_
   try refine xz6 hi hfl.symm hrl (gd hjr) hgj zav ?_
   refine cI (fun h3 => ?_) fun h3 => ?_
   ·obtain⟨m0,mt,rfl⟩:∃m0 mt,mid=m0::mt:=by
     cases mid with
     | nil=>simp at hm
     | cons a b=>exact⟨a,b,rfl⟩
    have hfn:(l.take (j+1)).filter (fun y => !p y)=fl ++ [l.getD j default]:=by rw[hts,List.filter_append,←hfl,List.filter_cons,h3];rfl
    have hs:(l.take (j+1)).filter (fun y => !p y)++(mt ++ [l.getD j default])++l.drop (j+1)=(fl++m0::mt++l.drop j).set fl.length (l.getD j default):=by
     rw[hfn,hds];simp
    have hfl2:((l.take (j+1)).filter (fun y => !p y)).length=fl.length+1:=by rw[hfn];simp
    have hlen2:fl.length+(mt.length+1)=j:=by rw[←hlen];simp
    try refine xz8 hi hfl.symm hrl (gd hjr) hgj zav ha0 hb0 ?_
    refine⟨(j+1,mt ++ [l.getD j default]),⟨by simp only;omega,by simp,by simp only;rw[hfl2];simp;omega⟩,by simp only;omega,To.mk [0] rfl rfl (by decide) ?_ ?_⟩
    ·simp(etaStruct := .none)only[push_cast,zab,seval,hs,List.map_set,zat]
    ·(try(refine xz3 hfl2 ha0 hb0 ?_;try exact xtI))
   ·have hfn:(l.take (j+1)).filter (fun y => !p y)=fl:=by rw[hts,List.filter_append,←hfl,List.filter_cons,h3];simp
    have hs:fl++(mid ++ [l.getD j default])++l.drop (j+1)=fl++mid++l.drop j:=by rw[hds];simp
    try refine xz6 hi hfl.symm hrl (gd hjr) hgj zav ?_
    refine⟨(j+1,mid ++ [l.getD j default]),⟨by simp only;omega,by simp,by simp only;rw[hfn];simp;omega⟩,by simp only;omega,To.mk [0] rfl rfl (by decide) ?_ ?_⟩
    ·simp(etaStruct := .none)only[push_cast,zab,seval,hfn,hs]
    ·(try(refine xz3 hfn ha0 hb0 ?_;try exact xtI))
  ·obtain rfl:j=l.length:=by omega
   rw[List.take_length]at hfl
   have hfle:fl.length≤l.length:=by omega
   have hres:∀Y:List (List PV),List.take fl.length (List.take fl.length ((fl++mid++l.drop l.length).map zat)++Y)=fl.map zat:=fun Y=>by
    rw[List.take_append_of_le_length (by simp),List.take_take,Nat.min_self,List.append_assoc,List.map_append,List.take_append_of_le_length (by simp),List.take_of_length_le (by simp)]
   try refine xz3 hi hfl.symm hrl ?_
   refine zmg (To.frz [0]) ?_
   simp(etaStruct := .none)only[push_cast,zab,seval]
   refine zcc [0] rfl rfl (by decide) ⟨?_,trivial⟩ trivial ?_<;>simp(etaStruct := .none)only[push_cast,zab,seval,hres,←hfl]
def zjr (WR:Cel→List Int) (w:Wld) (l:List Ord):Wld:=if zbo l w=0 then zd6 WR w l else default
def z7p (w:Wld) (l:List Ord):List Int:=if zbo l w=0 then z87 w l else []
def z7o (WR:Cel→List Int) (w:Wld) (l:List Ord):List Int:=if zbo l w=0 then z86 WR w l else []
def z7q (WR:Cel→List Int) (w:Wld) (l:List Ord):List Bool:=if zbo l w=0 then z88 WR w l else []
theorem zkl (w:Wld) (l:List Ord) (WR:Cel→List Int) (hWR:∀a,zas w.f [a] (WR a)) (hl:ze8 w) (hll:l.length≤9223372036854775807):Spec Tryz.prog 14 [zcx w,.c (.sl 6 (l.map zd4))] [] (.tup [zcx (zjr WR w l),ygi (z7p w l) (z7o WR w l) (z7q WR w l),I .i64 (zbo l w)]) []:=by
 unfold zjr z7p z7o z7q
 by_cases h:zbo l w=0
 ·rw[if_pos h,if_pos h,if_pos h,if_pos h,h];exact z89 w l WR hWR hll h
 ·rw[if_neg h,if_neg h,if_neg h,if_neg h]
  by_cases hs:zb4 l w=0
  ·have hn:1000000≤w.now:=by
    unfold zbo at h;rw[if_neg (by simp[hs])]at h;split at h;assumption;exact absurd rfl h
   rw[show zbo l w=6 from by unfold zbo;rw[if_neg (by simp[hs]),if_pos hn]];exact z9a w l hl hll hs hn
  ·rw[show zbo l w=zb4 l w from by unfold zbo;rw[if_pos hs]];exact z9b w l hl hll hs
end Go.Proofs.YtmjbgbmegbkmhaaGreat
namespace Go.Proofs.YtmjbgbmegbkmhaaGreat
set_option linter.all false
open Go.RowKit
theorem zuj {P:Program} {f:FuncId} (hf:zg4 P f) (args:List AV) (r:AV) (v:Value) (hr:∀(U:Nat→Prop) (w:World) (F:Nat→Prop) (β : Nat→Option Bind),RelA U w F β r v)
 (h:∀(w:World) (F:Nat→Prop) (β : Nat→Option Bind) (vs:List Value),(∀b,F b→b<w.heap.size)→RelL (· < 0) w F β args vs→Calls P f vs.toArray w fun e w'=>e = .returned v∧Below w.heap.size w w'):Spec P f args [] r []:=by
 refine⟨hf,Nat.le_refl _,fun w F β vs M hv => ?_⟩
 refine(h w F β vs M.fin hv).mono ?_
 rintro e w' ⟨rfl,hb⟩
 obtain⟨S1,S2⟩:=M.step (w':=w') (h':=nth []) (β' := β) (F':=F) (U':=(· < 0)) (fun _=>False) (fun _ _=>rfl) (fun _ _=>rfl) hb.os hb.tape hb.output hb.size (fun b h _=>hb.block b h) (fun _ h=>h) (fun _ h=>h)
  (fun b h=>⟨Nat.lt_of_lt_of_le (M.fin b h) hb.size,.inl h⟩) (fun _ _ h=>h.elim) (fun _ _ h=>h.elim) (fun _ _ _ _ _ h=>h.elim) (fun _ _ h=>h.elim)
 exact⟨v,F,β,rfl,S1,hr _ _ _ _,fun _ h=>h,fun _ h => .inl h,fun _ _ _ h=>⟨_,h⟩⟩
theorem z91 {α : Type} {w:World} {F:Nat→Prop} {u:Value} (enc : α → Value) (xs:List α) (hF:∀b,F b→b<w.heap.size) (h:RelP w F (.sl 1 (xs.map fun x => [.v (enc x)])) u) :
 ∃a c,u = .slice a xs.length c∧xs.length≤c∧c≤maxLen∧Els w w.heap.size a 1 (fun x => [enc x]) xs:=by
 simp only[RelP]at h
 obtain⟨a,c,rfl,h1,h2,h3⟩:=h
 rw[List.length_map]at h1
 refine⟨a,c,by rw[List.length_map],h1,h2,?_⟩
 rcases h3 with h3|⟨b,o,rfl,hb,hE⟩
 ·exact .inl (by simpa using h3)
 ·refine .inr ⟨b,o,rfl,hF b hb,fun i j v hv => ?_⟩
  cases hx:xs[i]? with
  | none=>rw[hx]at hv;simp at hv
  | some x =>
   rw[hx]at hv
   cases j with
   | succ j=>simp at hv
   | zero =>
    have hv':enc x=v:=by simpa using hv
    obtain⟨_,hc⟩:=RelE.at hE i [.v (enc x)] (by simp[hx])
    obtain⟨u,hu,hr⟩:=RelC.at hc 0 _ rfl
    simp only[RelP]at hr
    rw[←hv',←hr.1,←hu];rfl
theorem zuw {w:World} {U F:Nat→Prop} {β : Nat→Option Bind} {p:PV} {vs:List Value} (h:RelL U w F β [.c p] vs):∃u,vs = [u]∧RelP w F p u:=by
 simp only[RelL,RelA]at h
 obtain⟨u,us,rfl,h1,rfl⟩:=h
 exact⟨u,rfl,h1⟩
end Go.Proofs.YtmjbgbmegbkmhaaGreat
namespace Go.Proofs.YtmjbgbmegbkmhaaGreat
set_option linter.all false
open Go.RowKit
set_option maxRecDepth 100000
set_option maxHeartbeats 1000000
theorem ye2 (s:ByteArray) (hs:s.size≤140737488351232):Spec Tryz.prog 119 [S s] [] (.c (.v (.int .u64 (z1r s:Nat)))) [] :=
 zhv (zjp Tryz.func119 rfl rfl) [.string s] _ rfl fun w=>(z53 s w hs).mono fun e w' ⟨h1,h2⟩=>⟨h1,h2▸Below.refl _ _⟩
theorem zxs {s:ByteArray} {n:Int} {U:Nat→Prop} {w:World} {F:Nat→Prop} {β : Nat→Option Bind} : RelA U w F β (.tup [S s,I .i64 n]) (.tuple #[.string s,.int .i64 n]):=by
 simp only[RelA]
 refine⟨_,rfl,?_⟩
 simp[RelL,RelA,RelP,Value.oneCell']
theorem zu0 (xs:List Int) (hx:∀x∈xs,I64 x) (hl:xs.length≤140737488351232):Spec Tryz.prog 62 [.c (.sl 1 (xs.map zad))] [] (.tup [S (paR xs).1,I .i64 (paR xs).2]) [] :=
 zuj (zjp Tryz.func62 rfl rfl) _ _ (.tuple #[.string (paR xs).1,.int .i64 (paR xs).2]) (fun _ _ _ _=>zxs) fun w F β vs hF hv=>by
  obtain⟨u,rfl,hu⟩:=zuw hv
  obtain⟨a,c,rfl,_,_,hE⟩:=z91 (fun n:Int=>Value.int .i64 n) xs hF hu
  exact zxw a c w.heap.size xs w hE hx hl (Nat.le_refl _)
theorem yar (m n:Nat) (hm:m<18446744073709551616):Spec Tryz.prog 151 [.c (.v (.int .u64 m)),.c (.v (.int .u64 n))] [] (.c (.v (.int .u64 (m ^^^ mx n:Nat)))) [] :=
 zhv (zjp Tryz.func151 rfl rfl) [.int .u64 m,.int .u64 n] _ rfl fun w=>(z35 m n hm w).mono fun e w' h=>⟨h.1,h.2▸Below.refl _ _⟩
theorem yeu (m:Nat):mk m []=m:=rfl
theorem mkl (l:List Nat) (m:Nat) (k:Nat) (h:k<l.length):mk m (l.take (k+1))=mk m (l.take k) ^^^ mx (l.getD k default):=by rw[zan l k h,yav]
theorem yew (l:List Nat) (hl:l.length≤1000000):Spec Tryz.prog 120 [.c (.sl 1 [[.sl 1 (l.map zme)]])] [] (.c (.v (.int .u64 (mk 0 l:Nat)))) []:=by
 refine spB Tryz.func120 26 [.tmp 2] Tryz.results120 ?_
 try refine xst ?_
 refine zaw (fun k:Nat=>⟨[(10,I .i64 k),(9,I .i64 1),(8,.c (.sl 1 [[.sl 1 (l.map zme)]])),(3,.c (.v (.int .u64 ((if k=0 then 0 else mk 0 l:Nat):Int))))],[],0⟩) (fun k:Nat=>k≤1) (fun k:Nat=>1-k) (0) (Nat.zero_le _) (To.mk [] rfl rfl List.nodup_nil trivial ?_) ?_
 ·simp(etaStruct := .none)only[push_cast,zab,seval,if_pos trivial]
 rintro k hk
 try refine xst ?_
 refine cI (fun h1 => ?_) fun h1 => ?_
 ·obtain rfl:k=0:=by omega
  try refine xst ?_
  refine zaw (fun k:Nat=>⟨[(16,I .i64 k),(15,I .i64 l.length),(14,.c (.sl 1 (l.map zme))),(10,I .i64 0),(9,I .i64 1),(8,.c (.sl 1 [[.sl 1 (l.map zme)]])),(3,.c (.v (.int .u64 (mk 0 (l.take k):Nat))))],[],0⟩) (fun k:Nat=>k≤l.length) (fun k:Nat=>l.length-k) (0) (Nat.zero_le _) (To.mk [] rfl rfl List.nodup_nil trivial ?_) ?_
  ·simp(etaStruct := .none)only[push_cast,zab,seval,List.take_zero,yeu]
  rintro k hk
  try refine xst ?_
  refine cI (fun h2 => ?_) fun h2 => ?_
  ·have hlt:k<l.length:=by omega
   have ml:=mkl l 0 k hlt
   try refine xz2 (gd hlt) z7n ?_
   refine caP (yar (mk 0 (l.take k)) (l.getD k default) (yil _ 0 (by decide))) ?_
   try refine xz2 (gd hlt) z7n ?_
   refine⟨k+1,by omega,by omega,To.mk [] rfl rfl List.nodup_nil trivial ?_⟩
   ·(try(refine xz1 ml ?_;try exact xtI))
  ·obtain rfl:k=l.length:=by omega
   iterate 2(try simp(etaStruct := .none)only[push_cast,zab,seval,List.take_length];try refine xsu ?_)
   refine⟨1,by omega,by omega,To.mk [] rfl rfl List.nodup_nil trivial ?_⟩
   ·(iterate 2((try simp(etaStruct := .none)only[push_cast,zab,seval,if_neg (show ¬(1:Nat)=0 by decide),Int.zero_add]);(try(refine xsu ?_;try exact xtI))))
 ·obtain rfl:k=1:=by omega
  try refine xst ?_
  exact xrz rfl
theorem yik (l:List Nat) (hl:l.length≤1000000):Spec Tryz.prog 70 [.c (.sl 1 (l.map zme))] [] (.c (.v (.int .u64 (mk 0 l:Nat)))) []:=by
 refine spB Tryz.func70 6 [.tmp 2] Tryz.results70 ?_
 try refine xst ?_
 refine zcl (yew l hl) (WkL.refl _) rfl ?_
 try refine xst ?_
 exact xrz rfl
def zju (l:List Int):Nat:=z1r (paR l).1
theorem z47 (l:List Int):(paR l).1.size≤20000:=by
 unfold paR
 split
 ·show 0≤20000;omega
 ·show ByteArray.size ⟨(paK l l.length).toArray⟩≤20000
  rw[zo9];have:=zld l l.length;omega
theorem znv (l:List Int) (hx:∀x∈l,I64 x) (hl:l.length≤1000000):Spec Tryz.prog 69 [.c (.sl 1 (l.map zad))] [] (.c (.v (.int .u64 (zju l:Nat)))) []:=by
 have:=z47 l
 refine spB Tryz.func69 12 [.tmp 2] Tryz.results69 ?_
 try refine xst ?_
 refine caP (zu0 l hx (by omega)) ?_
 try refine xst ?_
 refine caP (ye2 (paR l).1 (by omega)) ?_
 try refine xst ?_
 (first|(refine zar rfl (Wk.of ?_);(try simp(etaStruct := .none)only[push_cast,zab,seval]);first|done|(simp[zju, *];done)|(simp_all[zju];done))|(refine zar rfl ?_;(try simp(etaStruct := .none)only[push_cast,zab,seval]);(try simp[zju, *]);(try exact wkc)))
def hdI (w:Wld):List Int := [1,w.f.w,w.f.h,w.next,w.now]++w.f.p
def yci (w:Wld) (i:Nat):List Int := [2,(i:Int),(w.bases.getD i default).x,(w.bases.getD i default).y,w.stocks.getD i default]
def yax (w:Wld) (i:Nat):List Int := [3,(i:Int),w.mines.getD i default]
def z9f (w:Wld) (i:Nat):List Int := [4,(w.troops.getD i default).id,(w.troops.getD i default).owner,(w.troops.getD i default).kind,(w.troops.getD i default).c.x,(w.troops.getD i default).c.y,(w.troops.getD i default).life,(w.troops.getD i default).load]
def wl1 (w:Wld) (k:Nat):List Nat:=zju (hdI w)::(List.range k).map fun i=>zju (yci w i)
def wl2 (w:Wld) (k:Nat):List Nat:=wl1 w w.bases.length++(List.range k).flatMap fun i=>if w.mines.getD i default=0 then []else [zju (yax w i)]
def wl3 (w:Wld) (k:Nat):List Nat:=wl2 w w.mines.length++(List.range k).map fun i=>zju (z9f w i)
theorem ygq (w:Wld):wl1 w 0 = [zju (hdI w)]:=rfl
theorem yc8 (w:Wld):wl2 w 0=wl1 w w.bases.length:=by simp[wl2]
theorem ygo (w:Wld):wl3 w 0=wl2 w w.mines.length:=by simp[wl3]
theorem ygp (w:Wld) (k:Nat):wl1 w (k+1)=wl1 w k ++ [zju (yci w k)]:=by simp[wl1,List.range_succ]
theorem yc7 (w:Wld) (k:Nat):wl2 w (k+1)=wl2 w k++(if w.mines.getD k default=0 then []else [zju (yax w k)]):=by
 unfold wl2;rw[List.range_succ,List.flatMap_append,←List.append_assoc];congr 1;exact List.flatMap_singleton ..
theorem ygn (w:Wld) (k:Nat):wl3 w (k+1)=wl3 w k ++ [zju (z9f w k)]:=by simp[wl3,List.range_succ]
theorem zy9 (w:Wld):∀k,(wl1 w k).length=k+1:=by intro k;simp[wl1]
theorem zr2 (w:Wld):∀k,(wl2 w k).length≤w.bases.length+1+k
 | 0=>by rw[yc8,zy9];omega
 | k+1=>by
  have:=zr2 w k
  rw[yc7,List.length_append];split<;>simp<;>omega
theorem zy8 (w:Wld) (k:Nat):(wl3 w k).length≤w.bases.length+1+w.mines.length+k:=by
 have:=zr2 w w.mines.length
 unfold wl3;rw[List.length_append,List.length_map,List.length_range];omega
def zjh (w:Wld):Nat:=mk 0 (wl3 w w.troops.length)
theorem zke {w:Wld} (h:zam w=0):(1≤w.f.w∧w.f.w≤40)∧(1≤w.f.h∧w.f.h≤40)∧(w.f.p.length≤1600∧∀p∈w.f.p,0≤p∧p<4)∧w.bases.length≤8∧w.troops.length≤100∧w.stocks.length=w.bases.length∧w.mines.length=w.f.p.length∧(1≤w.next∧w.next≤1000000)∧(0≤w.now∧w.now≤1000000) ∧
 (∀k,k<w.bases.length→(0≤(w.bases.getD k default).x∧(w.bases.getD k default).x≤39)∧(0≤(w.bases.getD k default).y∧(w.bases.getD k default).y≤39)∧0≤w.stocks.getD k default∧w.stocks.getD k default≤1000000) ∧
 (∀k,k<w.mines.length→0≤w.mines.getD k default∧w.mines.getD k default≤1000000):=by
 obtain⟨h1,h2,h3,h4,h5⟩:=zdd h
 obtain⟨g1,g2,g3,g4⟩:=zbc h1
 obtain⟨f1,f2,f3,f4⟩:=zkf h4
 have hm2:w.f.w*w.f.h≤40*40:=Int.mul_le_mul g1.2 g2.2 (by omega) (by omega)
 unfold zhp at h5
 simp only[Bool.and_eq_true]at h5
 refine⟨g1,g2,⟨by omega,g4⟩,h2,h3,f1,f2,f3,f4,fun k hk => ?_,fun k hk => ?_⟩
 ·have:=(zbd _ _).1 h5.1.1 k hk
  unfold zmq at this
  simp only[Bool.and_eq_true,within_iff]at this
  have hi:=inF_iff.1 (ground_iff.1 this.1.1).1
  omega
 ·have:=(zbd _ _).1 h5.1.2 k hk
  unfold zmi at this
  simp only[Bool.and_eq_true,within_iff]at this
  omega
theorem yfg {w:Wld} (h:zam w=0):(∀x∈hdI w,I64 x)∧(hdI w).length≤1000000:=by
 obtain⟨b1,b2,b3,b4,b5,b6,b7,b8,b9,b10,b11⟩:=zke h
 refine⟨fun x hx => ?_,by simp[hdI];omega⟩
 simp only[hdI,List.mem_append,List.mem_cons,List.not_mem_nil,or_false]at hx
 unfold I64
 rcases hx with (rfl|rfl|rfl|rfl|rfl)|hx
 ·omega
 ·omega
 ·omega
 ·omega
 ·omega
 ·have:=b3.2 x hx;omega
theorem ych {w:Wld} (h:zam w=0) {k:Nat} (hk:k<w.bases.length):(∀x∈yci w k,I64 x)∧(yci w k).length≤1000000:=by
 obtain⟨b1,b2,b3,b4,b5,b6,b7,b8,b9,b10,b11⟩:=zke h
 have:=b10 k hk
 refine⟨fun x hx => ?_,by simp[yci]⟩
 simp only[yci,List.mem_cons,List.not_mem_nil,or_false]at hx
 unfold I64
 rcases hx with rfl|rfl|rfl|rfl|rfl<;>omega
theorem yaw {w:Wld} (h:zam w=0) {k:Nat} (hk:k<w.mines.length):(∀x∈yax w k,I64 x)∧(yax w k).length≤1000000:=by
 obtain⟨b1,b2,b3,b4,b5,b6,b7,b8,b9,b10,b11⟩:=zke h
 have:=b11 k hk
 refine⟨fun x hx => ?_,by simp[yax]⟩
 simp only[yax,List.mem_cons,List.not_mem_nil,or_false]at hx
 unfold I64
 rcases hx with rfl|rfl|rfl<;>omega
theorem z55 {k:Int} : (zbe k).life≤20:=by unfold zbe;split;decide;split<;>decide
theorem z9e {w:Wld} (h:zam w=0) {k:Nat} (hk:k<w.troops.length):(∀x∈z9f w k,I64 x)∧(z9f w k).length≤1000000:=by
 obtain⟨b1,b2,b3,b4,b5,b6,b7,b8,b9,b10,b11⟩:=zke h
 obtain⟨t1,t2,t3,t4,t5,t6,t7,t8⟩:=(ze9 h hk).1
 have kl := @z55 (w.troops.getD k default).kind
 refine⟨fun x hx => ?_,by simp[z9f]⟩
 simp only[z9f,List.mem_cons,List.not_mem_nil,or_false]at hx
 unfold I64
 rcases hx with rfl|rfl|rfl|rfl|rfl|rfl|rfl|rfl<;>omega
theorem zzm (w:Wld) (hl:ze8 w) (hw:zam w=0):Spec Tryz.prog 25 [zcx w] [] (.tup [.c (.v (.int .u64 (zjh w:Nat))),I .i64 0]) []:=by
 obtain⟨b1,b2,b3,b4,b5,b6,b7,b8,b9,b10,b11⟩:=zke hw
 have h0:=yfg hw
 refine spB Tryz.func25 107 [.tmp 2,.tmp 3] Tryz.results25 ?_
 try refine xst ?_
 refine caP (zdw w hl) ?_
 try refine xst ?_
 refine cI (fun h1 => ?_) fun h1 => ?_
 ·exact absurd hw h1
 ·try refine xst ?_
  refine zcl (znv (hdI w) h0.1 h0.2) (WkL.refl _) rfl ?_
  try refine xst ?_
  refine zaw (fun k:Nat=>⟨[(37,I .i64 k),(36,I .i64 w.bases.length),(35,.c (.sl 2 (w.bases.map za2))),(5,.own 1),(1,.ptr 0 0 0)],[(0,.blk 28 (zkg w)),(1,.row 96 1 ((wl1 w k).map zme))],2⟩) (fun k:Nat=>k≤w.bases.length) (fun k:Nat=>w.bases.length-k) (0) (Nat.zero_le _) (To.mk [0,3] rfl rfl (by decide) ?_ ?_) ?_
  ·simp(etaStruct := .none)only[push_cast,zab,seval,ygq,zme]
  ·simp(etaStruct := .none)only[push_cast,zab,seval]
  rintro k hk
  try refine xst ?_
  refine cI (fun h2 => ?_) fun h2 => ?_
  ·have hlt:k<w.bases.length:=by omega
   have hlt2:k<w.stocks.length:=by omega
   have ok:=ych hw hlt
   have ln:=zy9 w k
   try refine xz4 (gd hlt) (gd hlt2) za4 zaq ?_
   refine zcl (znv (yci w k) ok.1 ok.2) (WkL.refl _) rfl ?_
   try refine xz4 (gd hlt) (gd hlt2) za4 zaq ?_
   (try(refine⟨by kernel_rfl,?_⟩))
   try refine xz4 (gd hlt) (gd hlt2) za4 zaq ?_
   refine⟨k+1,by omega,by omega,To.mk [0,59] rfl rfl (by decide) ?_ ?_⟩
   ·(iterate 2((try simp(etaStruct := .none)only[push_cast,zab,seval,ygp,List.map_append,zme]);(try(refine xsu ?_;try exact xtI))))
   ·(try(refine xz4 (gd hlt) (gd hlt2) za4 zaq ?_;try exact xtI))
  ·obtain rfl:k=w.bases.length:=by omega
   try refine xst ?_
   refine zaw (fun k:Nat=>⟨[(61,I .i64 k),(60,I .i64 w.mines.length),(59,.c (.sl 1 (w.mines.map zad))),(5,.own 1),(1,.ptr 0 0 0)],[(0,.blk 28 (zkg w)),(1,.row 96 1 ((wl2 w k).map zme))],2⟩) (fun k:Nat=>k≤w.mines.length) (fun k:Nat=>w.mines.length-k) (0) (Nat.zero_le _) (To.mk [0,1] rfl rfl (by decide) ?_ ?_) ?_
   ·simp(etaStruct := .none)only[push_cast,zab,seval,yc8]
   ·simp(etaStruct := .none)only[push_cast,zab,seval]
   rintro k hk
   try refine xst ?_
   refine cI (fun h3 => ?_) fun h3 => ?_
   ·have hlt:k<w.mines.length:=by omega
    have ok:=yaw hw hlt
    have ln:=zr2 w k
    have bm:=b11 k hlt
    have st:=yc7 w k
    try refine xz2 (gd hlt) zaq ?_
    refine cI (fun h4 => ?_) fun h4 => ?_
    ·rw[if_neg (by omega)]at st
     try refine xz2 (gd hlt) zaq ?_
     refine zcl (znv (yax w k) ok.1 ok.2) (WkL.refl _) rfl ?_
     try refine xz2 (gd hlt) zaq ?_
     refine⟨k+1,by omega,by omega,To.mk [0,4] rfl rfl (by decide) ?_ ?_⟩
     ·(iterate 2((try simp(etaStruct := .none)only[push_cast,zab,seval,st,List.map_append,zme]);(try(refine xsu ?_;try exact xtI))))
     ·(try(refine xz2 (gd hlt) zaq ?_;try exact xtI))
    ·rw[if_pos (by omega),List.append_nil]at st
     try refine xz2 (gd hlt) zaq ?_
     refine⟨k+1,by omega,by omega,To.mk [0,1] rfl rfl (by decide) ?_ ?_⟩
     ·(try(refine xz1 st ?_;try exact xtI))
     ·(try(refine xz2 (gd hlt) zaq ?_;try exact xtI))
   ·obtain rfl:k=w.mines.length:=by omega
    try refine xst ?_
    refine zaw (fun k:Nat=>⟨[(79,I .i64 k),(78,I .i64 w.troops.length),(77,.c (.sl 7 (w.troops.map zat))),(5,.own 0)],[(0,.row 96 1 ((wl3 w k).map zme))],1⟩) (fun k:Nat=>k≤w.troops.length) (fun k:Nat=>w.troops.length-k) (0) (Nat.zero_le _) (To.mk [1] rfl rfl (by decide) ?_ ?_) ?_
    ·simp(etaStruct := .none)only[push_cast,zab,seval,ygo]
    ·simp(etaStruct := .none)only[push_cast,zab,seval]
    rintro k hk
    try refine xst ?_
    refine cI (fun h5 => ?_) fun h5 => ?_
    ·have hlt:k<w.troops.length:=by omega
     have ok:=z9e hw hlt
     have ln:=zy8 w k
     try refine xz2 (gd hlt) zav ?_
     refine zcl (znv (z9f w k) ok.1 ok.2) (WkL.refl _) rfl ?_
     try refine xz2 (gd hlt) zav ?_
     refine⟨k+1,by omega,by omega,To.mk [4] rfl rfl (by decide) ?_ ?_⟩
     ·(iterate 2((try simp(etaStruct := .none)only[push_cast,zab,seval,ygn,List.map_append,zme]);(try(refine xsu ?_;try exact xtI))))
     ·(try(refine xz2 (gd hlt) zav ?_;try exact xtI))
    ·obtain rfl:k=w.troops.length:=by omega
     have ln:=zy8 w w.troops.length
     try refine xst ?_
     refine zcl (yik (wl3 w w.troops.length) (by omega)) (WkL.refl _) rfl ?_
     try refine xst ?_
     (first|(refine zar rfl (Wk.of ?_);(try simp(etaStruct := .none)only[push_cast,zab,seval]);first|done|(simp[zjh, *];done)|(simp_all[zjh];done))|(refine zar rfl ?_;(try simp(etaStruct := .none)only[push_cast,zab,seval]);(try simp[zjh, *]);(try exact wkc)))
def zd0 (l:List Ord):List PV := [.sl 6 (l.map zd4)]
theorem zeq (l:List Ord):zd0 l = [.sl 6 (l.map zd4)]:=rfl
def zgq (WR:Cel→List Int):List (List Ord)→Wld→Wld
 | [],w=>w
 | o::r,w=>zgq WR r (zd6 WR w o)
def zy1 (WR:Cel→List Int):List (List Ord)→Wld→List Nat
 | [],w => [zjh w]
 | o::r,w=>zjh w::zy1 WR r (zd6 WR w o)
def zhm (WR:Cel→List Int):List (List Ord)→Wld→Int
 | [],_=>0
 | o::r,w=>if zbo o w≠0 then zbo o w else zhm WR r (zd6 WR w o)
theorem yb0 (w:Wld) (d:Ded):(zfu w d).1.f=w.f:=by
 unfold zfu
 repeat' split
 all_goals rfl
theorem z6u (l:List Ded):∀w,(za9 w l).1.f=w.f:=by
 induction l with
 | nil=>intro w;rfl
 | cons a r ih=>intro w;rw[za9,ih,yb0]
theorem zr6 (WR:Cel→List Int) (w:Wld) (o:List Ord):(zd6 WR w o).f=w.f:=by
 unfold zd6 zgt tkC;rw[show ({ (za9 (tkB WR w o) (zcg o w)).1 with now:=(za9 (tkB WR w o) (zcg o w)).1.now+1 } : Wld).f=(za9 (tkB WR w o) (zcg o w)).1.f from rfl,z6u];rfl
theorem zz9 (WR:Cel→List Int):∀(l:List (List Ord)) (w:Wld),(zgq WR l w).f=w.f
 | [],_=>rfl
 | o::r,w=>by rw[zgq,zz9 WR r,zr6]
theorem zp4 (WR:Cel→List Int) (o:List Ord):∀(l:List (List Ord)) (w:Wld),zgq WR (l ++ [o]) w=zd6 WR (zgq WR l w) o
 | [],_=>rfl
 | a::r,w=>by rw[List.cons_append,zgq,zp4 WR o r];rfl
theorem zp5 (WR:Cel→List Int) (o:List Ord):∀(l:List (List Ord)) (w:Wld),zy1 WR (l ++ [o]) w=zy1 WR l w ++ [zjh (zd6 WR (zgq WR l w) o)]
 | [],_=>rfl
 | a::r,w=>by rw[List.cons_append,zy1,zp5 WR o r];rfl
theorem zj3 (WR:Cel→List Int) (b:List (List Ord)):∀(a:List (List Ord)) (w:Wld),zhm WR (a++b) w=if zhm WR a w≠0 then zhm WR a w else zhm WR b (zgq WR a w)
 | [],w=>by simp[zhm,zgq]
 | o::r,w=>by
  rw[List.cons_append,zhm,zhm,zj3 WR b r,zgq]
  by_cases h:zbo o w≠0
  ·rw[if_pos h,if_pos h,if_pos h]
  ·rw[if_neg h,if_neg h]
theorem zur (WR:Cel→List Int):∀(l:List (List Ord)) (w:Wld),(zy1 WR l w).length=l.length+1
 | [],_=>rfl
 | o::r,w=>by rw[zy1,List.length_cons,zur WR r,List.length_cons]
theorem znt {w:Wld} {l:List Ord} (h:zbo l w=0):Right w∧w.now<1000000:=by
 have hs:zb4 l w=0:=by unfold zbo at h;split at h;rename_i h1;exact absurd h h1;rename_i h1;simpa using h1
 have hn:w.now<1000000:=by unfold zbo at h;rw[if_neg (by simp[hs])]at h;split at h;exact absurd h (by decide);omega
 exact⟨zcn (zez hs).2,hn⟩
theorem zk4 {WR:Cel→List Int} : ∀(l:List (List Ord)) {w:Wld},Right w→(∀a,zas w.f [a] (WR a))→zhm WR l w=0→Right (zgq WR l w)
 | [],_,h,_,_=>h
 | o::r,w,h,hWR,he=>by
  rw[zhm]at he
  split at he
  ·rename_i h1;exact absurd he h1
  ·rename_i h1
   have h1:zbo o w=0:=by simpa using h1
   exact zk4 r (zis h hWR o (znt h1).2) (by intro a;rw[zr6];exact hWR a) he
theorem z4r {WR:Cel→List Int} {ts:List (List Ord)} {w:Wld} {k:Nat} (hk:k<ts.length) (h:zhm WR (ts.take k) w=0):(zbo (ts.getD k default) (zgq WR (ts.take k) w)≠0→zhm WR ts w=zbo (ts.getD k default) (zgq WR (ts.take k) w))∧(zbo (ts.getD k default) (zgq WR (ts.take k) w)=0→zhm WR (ts.take (k+1)) w=0):=by
 have e1:=zan ts k hk
 constructor
 ·intro hn
  have e2:ts=ts.take k++ts.drop k:=(List.take_append_drop k ts).symm
  have e3:ts.drop k=ts.getD k default::ts.drop (k+1):=by rw[zac _ _ hk];exact List.drop_eq_getElem_cons hk
  rw[show zhm WR ts w=zhm WR (ts.take k++ts.drop k) w from by rw[←e2],zj3,if_neg (by simp[h]),e3,zhm,if_pos hn]
 ·intro h0
  rw[e1,zj3,if_neg (fun hn=>hn h),zhm,if_neg (fun hn=>hn h0)];rfl
theorem zmt {w:Wld} (h:Right w):zeo w []=w:=by
 have e:zdr w []=id:=by funext t;unfold zdr;rw[zv0];simp
 unfold zeo zh6
 rw[e,List.map_id,List.filter_eq_self.2]
 intro t ht
 obtain⟨i,hi,rfl⟩:=List.mem_iff_getElem.1 ht
 have:=(h.trp i hi).life
 rw[zac _ _ hi]at this
 simp;omega
abbrev yc5:List AV := [I .i64 0,I .i64 0,.c (.v (.slice none 0 0)),.c (.v (.slice none 0 0)),.c (.v (.slice none 0 0)),.c (.v (.slice none 0 0)),.c (.v (.slice none 0 0)),I .i64 0,I .i64 0]
theorem ydh (w:Wld) (ts:List (List Ord)) (WR:Cel→List Int) (hWR:∀a,zas w.f [a] (WR a)) (hts:ts.length≤200) (hin:∀l∈ts,l.length≤9223372036854775807) (hw:Right w):Spec Tryz.prog 26 [zcx w,.c (.sl 1 (ts.map zd0))] [] (.tup [zcx (if zhm WR ts w=0 then zgq WR ts w else default),.c (.sl 1 ((if zhm WR ts w=0 then zy1 WR ts w else []).map zme)),I .i64 (zhm WR ts w)]) []:=by
 have e1:zbj w []=0:=by unfold zbj;rw[if_neg (by simp[hw.e]),if_neg (by simp)]
 have HK:=zq7 w [] hw.l (by simp) e1
 rw[e1,show zep w []=w from by unfold zep;rw[if_pos e1,zmt hw]]at HK
 obtain⟨E,hE⟩:∃E,E=zhm WR ts w:=⟨_,rfl⟩
 rw[←hE]
 refine spB Tryz.func26 64 [.cell 4 28,.tmp 5,.tmp 6] Tryz.results26 ?_
 try refine xst ?_
 refine cI (fun h1 => ?_) fun h1 => ?_
 ·omega
 ·try refine xst ?_
  refine zdl (HK) (by exact⟨Wk.refl _,Wk.nil _,trivial⟩) ?_
  try refine xst ?_
  refine cI (fun h2 => ?_) fun h2 => ?_
  ·simp at h2
  ·try refine xst ?_
   refine caP (zzm w hw.l hw.e) ?_
   try refine xst ?_
   refine zaw (fun k:Nat=>⟨[(37,I .i64 k),(36,I .i64 ts.length),(35,.c (.sl 1 (ts.map zd0))),(11,.own 2),(4,.ptr 1 0 0),(2,.ptr 0 0 0)],[(0,.blk 28 (zkg (zgq WR (ts.take k) w))),(1,.blk 28 yc5),(2,.row 96 1 ((zy1 WR (ts.take k) w).map zme))],3⟩) (fun k:Nat=>k≤ts.length∧zhm WR (ts.take k) w=0) (fun k:Nat=>ts.length-k) (0) (⟨Nat.zero_le _,rfl⟩) (To.mk [0,1,2] rfl rfl (by decide) ?_ ?_) ?_
   ·simp(etaStruct := .none)only[push_cast,zab,seval,List.take_zero,zgq,zy1,List.map_cons,List.map_nil,zme]
   ·simp(etaStruct := .none)only[push_cast,zab,seval]
   rintro k ⟨hk,hn⟩
   try refine xst ?_
   refine cI (fun h3 => ?_) fun h3 => ?_
   ·have hlt:k<ts.length:=by omega
    have RK:=zk4 (ts.take k) hw hWR hn
    have hWk:∀a,zas (zgq WR (ts.take k) w).f [a] (WR a):=by intro a;rw[zz9];exact hWR a
    obtain⟨st1,st2⟩:=z4r hlt hn
    have T:=zkl (zgq WR (ts.take k) w) (ts.getD k default) WR hWk RK.l (hin _ (zaz _ _ hlt))
    try refine xz2 (gd hlt) zeq ?_
    refine caP (T) ?_
    try refine xz2 (gd hlt) zeq ?_
    refine cI (fun h4 => ?_) fun h4 => ?_
    ·have hE2:=hE.trans (st1 h4)
     rw[if_neg (by rw[hE2];exact h4),if_neg (by rw[hE2];exact h4),hE2]
     try refine xz2 (gd hlt) zeq ?_
     exact xrz rfl
    ·have e0:zbo (ts.getD k default) (zgq WR (ts.take k) w)=0:=by simpa using h4
     have hWv:zjr WR (zgq WR (ts.take k) w) (ts.getD k default)=zd6 WR (zgq WR (ts.take k) w) (ts.getD k default):=if_pos e0
     have RV:Right (zjr WR (zgq WR (ts.take k) w) (ts.getD k default)):=by rw[hWv];exact zis RK hWk _ (znt e0).2
     have hW1:zgq WR (ts.take (k+1)) w=zjr WR (zgq WR (ts.take k) w) (ts.getD k default):=by rw[zan ts k hlt,zp4,hWv]
     have hM1:zy1 WR (ts.take (k+1)) w=zy1 WR (ts.take k) w ++ [zjh (zjr WR (zgq WR (ts.take k) w) (ts.getD k default))]:=by rw[zan ts k hlt,zp5,hWv]
     have hml:=zur WR (ts.take k) w
     rw[List.length_take]at hml
     try refine xz2 (gd hlt) zeq ?_
     refine caP (zzm _ RV.l RV.e) ?_
     try refine xz2 (gd hlt) zeq ?_
     refine⟨k+1,⟨by omega,st2 e0⟩,by omega,To.mk [0,1,4] rfl rfl (by decide) ?_ ?_⟩
     ·(iterate 2((try simp(etaStruct := .none)only[push_cast,zab,seval,hW1,hM1,List.map_append,List.map_cons,List.map_nil,zme]);(try(refine xsu ?_;try exact xtI))))
     ·(try(refine xz2 (gd hlt) zeq ?_;try exact xtI))
   ·obtain rfl:k=ts.length:=by omega
    rw[List.take_length]at hn
    have hE0:E=0:=hE.trans hn
    rw[if_pos hE0,if_pos hE0,hE0]
    iterate 2(try simp(etaStruct := .none)only[push_cast,zab,seval,List.take_length];try refine xsu ?_)
    exact xrz rfl
def zd8 (WR:Cel→List Int) (ts:List (List Ord)) (w:Wld):Int:=if 200<ts.length then 2 else if zam w≠0 then zam w else zhm WR ts w
def zg9 (WR:Cel→List Int) (ts:List (List Ord)) (w:Wld):Wld:=if zd8 WR ts w=0 then zgq WR ts w else default
def yd1 (WR:Cel→List Int) (ts:List (List Ord)) (w:Wld):List Nat:=if zd8 WR ts w=0 then zy1 WR ts w else []
theorem ydg (w:Wld) (ts:List (List Ord)) (h:200<ts.length):Spec Tryz.prog 26 [zcx w,.c (.sl 1 (ts.map zd0))] [] (.tup [zcx default,.c (.sl 1 (([]:List Nat).map zme)),I .i64 2]) []:=by
 refine spB Tryz.func26 64 [.cell 4 28,.tmp 5,.tmp 6] Tryz.results26 ?_
 try refine xst ?_
 refine cI (fun h1 => ?_) fun h1 => ?_
 ·try refine xst ?_
  exact xrz rfl
 ·omega
theorem ydf (w:Wld) (ts:List (List Ord)) (hl:ze8 w) (h:ts.length≤200) (hw:zam w≠0):Spec Tryz.prog 26 [zcx w,.c (.sl 1 (ts.map zd0))] [] (.tup [zcx default,.c (.sl 1 (([]:List Nat).map zme)),I .i64 (zam w)]) []:=by
 have e1:zbj w []=zam w:=by unfold zbj;rw[if_pos hw]
 have HK:=z14 w [] hl (by simp) (by rw[e1];exact hw)
 rw[e1]at HK
 refine spB Tryz.func26 64 [.cell 4 28,.tmp 5,.tmp 6] Tryz.results26 ?_
 try refine xst ?_
 refine cI (fun h1 => ?_) fun h1 => ?_
 ·omega
 ·try refine xst ?_
  refine zdl (HK) (by exact⟨Wk.refl _,Wk.nil _,trivial⟩) ?_
  try refine xst ?_
  refine cI (fun h2 => ?_) fun h2 => ?_
  ·try refine xst ?_
   exact xrz rfl
  ·exact absurd h2 hw
theorem zkm (w:Wld) (ts:List (List Ord)) (WR:Cel→List Int) (hWR:∀a,zas w.f [a] (WR a)) (hl:ze8 w) (hin:∀l∈ts,l.length≤9223372036854775807):Spec Tryz.prog 26 [zcx w,.c (.sl 1 (ts.map zd0))] [] (.tup [zcx (zg9 WR ts w),.c (.sl 1 ((yd1 WR ts w).map zme)),I .i64 (zd8 WR ts w)]) []:=by
 unfold zg9 yd1
 obtain⟨E,hE⟩:∃E,E=zd8 WR ts w:=⟨_,rfl⟩
 rw[←hE]
 unfold zd8 at hE
 by_cases h:200<ts.length
 ·rw[if_pos h]at hE;subst hE;exact ydg w ts h
 ·rw[if_neg h]at hE
  by_cases hw:zam w=0
  ·rw[if_neg (fun hn=>hn hw)]at hE;subst hE;exact ydh w ts WR hWR (by omega) hin (zcn hw)
  ·rw[if_pos hw]at hE;subst hE;rw[if_neg hw,if_neg hw];exact ydf w ts hl (by omega) hw
theorem zhy {WR:Cel→List Int} {ts:List (List Ord)} {w:Wld} (h:zd8 WR ts w=0):ts.length≤200∧Right w∧zhm WR ts w=0:=by
 unfold zd8 at h
 split at h
 ·exact absurd h (by decide)
 ·split at h
  ·rename_i h1;exact absurd h h1
  ·rename_i h1;exact⟨by omega,zcn (Decidable.not_not.1 h1),h⟩
theorem yc4:ze8 (default:Wld):=⟨Nat.zero_le _,Nat.zero_le _,Nat.zero_le _,Nat.zero_le _,Nat.zero_le _⟩
end Go.Proofs.YtmjbgbmegbkmhaaGreat
