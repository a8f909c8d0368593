/- Lemmas for the proof of topGone.proved. -/
import Derived.Test.YtmjbgbmegbkmhaaGreatTGo6
namespace Go.Proofs.YtmjbgbmegbkmhaaGreat
set_option linter.all false
open Go.RowKit
set_option maxRecDepth 100000
set_option maxHeartbeats 2000000
def PP (f:Fld) (far:List Int) (c n:Cel):Prop:=(zcq f n).2=true∧0≤far.getD (zal f n) default∧far.getD (zal f n) default+kV (zah f c)=far.getD (zal f c) default
instance (f:Fld) (far:List Int) (c n:Cel):Decidable (PP f far c n):=by unfold PP;infer_instance
section
variable {f : Fld} {a b c : Cel} {R : List Int} {W H : Nat}
theorem z2l (s:Srch f a b R W H) (hf:zbv f=0) (hpa:zah f a≠1) (hc:inF f c=true) (h0:0≤R.getD (zal f c) default):zcq f c=(kV (zah f c),true):=by
 have epl:zah f c=f.p.getD (zal f c) default:=rfl
 have:zah f c≠1:=by
  rw[epl]
  rcases s.r.why _ (zbd s.w s.h s.w0 hf hc).2 h0 with ⟨w1,_⟩|⟨_,_,_,hr,_⟩
  ·rw[List.mem_singleton]at w1;rw[w1];exact hpa
  ·exact hr
 unfold zcq
 rw[if_pos hc,if_neg this]
theorem z6r (s:Srch f a b R W H) (hf:zbv f=0) (ha:inF f a=true) (hb:inF f b=true) (hpa:zah f a≠1) (hc:inF f c=true) (h0:0≤R.getD (zal f c) default) (hb0:0≤R.getD (zal f b) default) (hcb:R.getD (zal f c) default+zbb b c≤R.getD (zal f b) default) (hfc:(zcn f a b).1.getD (zal f c) default=R.getD (zal f c) default) {n:Cel} (hn:n∈zaf c) :
 PP f (zcn f a b).1 c n↔(inF f n=true∧zuf R f c n=true) :=
 z8j s.w s.h s.w0 hf s.l s.r ha hpa hc h0 s.ass hcb ((s.end hf ha hb).2 hb0).2 hfc hn
theorem z3o (s:Srch f a b R W H) (hf:zbv f=0) (ha:inF f a=true) (hb:inF f b=true) (hpa:zah f a≠1) (hc:inF f c=true) (h0:0≤R.getD (zal f c) default) (hb0:0≤R.getD (zal f b) default) (hcb:R.getD (zal f c) default+zbb b c≤R.getD (zal f b) default) (hfc:(zcn f a b).1.getD (zal f c) default=R.getD (zal f c) default)
 {k:Nat} (hk:k<4) (hn:∀i,i<k→¬PP f (zcn f a b).1 c ((zaf c).getD i default)) (hp:PP f (zcn f a b).1 c ((zaf c).getD k default)):(zaf c).getD k default=zlq R f c:=by
 have h4:(zaf c).length=4:=rfl
 have e1:(zaf c).find? (fun n=>decide (PP f (zcn f a b).1 c n))=some ((zaf c).getD k default):=by
  rw[List.find?_eq_some_iff_getElem]
  refine⟨by simpa using hp,k,by omega,(zad _ _ (by omega)).symm,fun j hj => ?_⟩
  have:=hn j hj
  rw[zad _ _ (by omega)]at this
  simpa using this
 have e2:=zxe (f:=f) (R:=R) (c:=c) (p:=fun n=>decide (PP f (zcn f a b).1 c n)) fun n hn=>by
  have:=z6r s hf ha hb hpa hc h0 hb0 hcb hfc hn
  rw[Bool.eq_iff_iff,decide_eq_true_eq,Bool.and_eq_true];exact this
 rw[e1]at e2
 unfold zlq
 rw[←e2];rfl
theorem ygh (s:Srch f a b R W H) (hf:zbv f=0) (ha:inF f a=true) (hb:inF f b=true) (hpa:zah f a≠1) (hc:inF f c=true) (h0:0≤R.getD (zal f c) default) (hb0:0≤R.getD (zal f b) default) (hcb:R.getD (zal f c) default+zbb b c≤R.getD (zal f b) default) (hfc:(zcn f a b).1.getD (zal f c) default=R.getD (zal f c) default)
 (hca:c≠a) (hn:∀i,i<4→¬PP f (zcn f a b).1 c ((zaf c).getD i default)):False:=by
 obtain⟨_,hm,hin,_,h1,h2⟩:=zzp s.w s.h s.w0 hf s.l s.r ha hc hca h0
 have hms:=(List.mem_filter.1 hm).1
 obtain⟨i,hi,e⟩:=mem_getD.1 hms
 refine hn i hi ?_
 rw[←e]at hms
 rw[z6r s hf ha hb hpa hc h0 hb0 hcb hfc hms,e]
 exact⟨hin,by unfold zuf;rw[Bool.and_eq_true,decide_eq_true_eq,decide_eq_true_eq];exact⟨h1,h2⟩⟩
theorem z32 (s:Srch f a b R W H) (hf:zbv f=0) (ha:inF f a=true) (hb:inF f b=true) (hc:inF f c=true) (h0:0≤R.getD (zal f c) default) (hb0:0≤R.getD (zal f b) default) (hcb:R.getD (zal f c) default+zbb b c≤R.getD (zal f b) default) (hca:c≠a) :
 inF f (zlq R f c)=true∧0≤R.getD (zal f (zlq R f c)) default∧R.getD (zal f (zlq R f c)) default+2≤R.getD (zal f c) default∧R.getD (zal f (zlq R f c)) default+zbb b (zlq R f c)≤R.getD (zal f b) default∧(zcn f a b).1.getD (zal f (zlq R f c)) default=R.getD (zal f (zlq R f c)) default:=by
 obtain⟨_,hm,hin,hadj,h1,h2⟩:=zzp s.w s.h s.w0 hf s.l s.r ha hc hca h0
 have hkv:=zxt (zah f c)
 have hcons:=zn0 s.w s.h s.w0 b
 rw[←s.l]at hcons
 obtain⟨en,hnL⟩:=zbd s.w s.h s.w0 hf hin
 obtain⟨ec,hcL⟩:=zbd s.w s.h s.w0 hf hc
 have hle:=hcons _ _ hnL hcL hadj.symm
 simp only at hle
 rw[←en,←ec]at hle
 refine⟨hin,h1,by omega,by omega,?_⟩
 exact s.ass.known hcons (zbd s.w s.h s.w0 hf ha).2 s.r hnL h1 (fun x hx=>by have:=((s.end hf ha hb).2 hb0).2 x hx;rw[←en];omega)
theorem z6k (s:Srch f a b R W H) (hl:f.p.length≤1600) (p:Nat) (hp:p<f.p.length) : -1≤(zcn f a b).1.getD p default∧(zcn f a b).1.getD p default≤4800:=by
 have h1:=s.ass.low p hp
 have h2:=s.ass.top p hp
 have h3:=zgq zej 1 zgv (zcn f a b).1
 rw[s.ass.len]at h3
 omega
end
theorem cel_ne {c a:Cel} : ¬(c.x=a.x∧c.y=a.y)↔c≠a:=by
 obtain⟨x,y⟩:=c;obtain⟨u,v⟩:=a;simp
theorem zy7 (f:Fld) (a b:Cel) (hl:f.p.length≤9223372036854775807) (R:List Int) (hR:zap f [a] R):Spec Tryz.prog 134 [z45 f,zg6 a,zg6 b] [] (.tup [.c (.sl 2 ((if zlk R f a b=0 then ya3 R f a b else []).map za6)),I .i64 (yek R f a b),I .i64 (zlk R f a b)]) []:=by
 rcases zv2 R f a b with ⟨hE,hbad⟩|⟨hf,ha,hb,hpa,hpb,⟨hE,h0⟩|⟨hE,h0⟩⟩
 ·have e:yek R f a b=0:=if_neg hE
  rw[if_neg hE]
  refine spB Tryz.func134 107 [.tmp 6,.tmp 7,.tmp 8] Tryz.results134 ?_
  try refine xst ?_
  refine caP (zrv f a b hl hbad R) ?_
  try refine xst ?_
  refine cI (fun h1 => ?_) fun h1 => ?_
  ·skip
   try refine xst ?_
   (first|(refine zas rfl (Wk.of ?_);(try simp(etaStruct := .none)only[push_cast,zab,seval]);first|done|(simp[e, *];done)|(simp_all[e];done))|(refine zas rfl ?_;(try simp(etaStruct := .none)only[push_cast,zab,seval]);(try simp[e, *]);(try exact wkc)))
  ·exact absurd h1 hE
 ·have e:yek R f a b=0:=if_neg (by rw[hE];decide)
  rw[e,hE,if_neg (by decide)]
  refine spB Tryz.func134 107 [.tmp 6,.tmp 7,.tmp 8] Tryz.results134 ?_
  try refine xst ?_
  refine caP (zpa f a b hl hf ha hb hpa hpb hR h0) ?_
  try refine xst ?_
  refine cI (fun h1 => ?_) fun h1 => ?_
  ·try refine xst ?_
   exact xrz rfl
  ·exact absurd h1 (by decide)
 ·have e:yek R f a b=R.getD (zal f b) default:=if_pos hE
  obtain⟨W,H,s⟩:=yem (b:=b) hf ha hpa hR
  have hend:=(s.end hf ha hb).2 h0
  have hbF:zal f b<(zcn f a b).1.length:=by rw[s.ass.len];exact(zbd s.w s.h s.w0 hf hb).2
  have hpx:=zbm hf ha
  rw[e,hE,if_pos rfl]
  refine spB Tryz.func134 107 [.tmp 6,.tmp 7,.tmp 8] Tryz.results134 ?_
  (iterate 2((try simp(etaStruct := .none)only[push_cast,seval]);(try(refine xsu ?_;try exact xtI))))
  refine caM [] (zru f a b hl hf ha hb hpa hpb hR h0) ?_
  (iterate 2((try simp(etaStruct := .none)only[push_cast,seval]);(try(refine xsu ?_;try exact xtI))))
  refine cI (fun h1 => ?_) fun h1 => ?_
  ·exact absurd h1 (by decide)
  ·(iterate 2((try simp(etaStruct := .none)only[push_cast,seval]);(try(refine xsu ?_;try exact xtI))))
   refine zay (fun x:Nat × Cel × List Cel=>⟨[(12,.ptr 5 0 0),(11,.own 6),(9,.ptr 0 0 0),(5,.ptr 4 0 0),(4,.ptr 3 0 0)],[(0,srB f b (.own 1) (.own 2)),(1,.row 3 1 ((zcn f a b).1.map zac)),(2,.row 327 4 ((zcn f a b).2.map zbt)),(3,.blk 46 [I .i64 a.x,I .i64 a.y]),(4,.blk 46 [I .i64 b.x,I .i64 b.y]),(5,.blk 46 [I .i64 x.2.1.x,I .i64 x.2.1.y]),(6,.row 46 2 (x.2.2.map za6))],7⟩) (fun x:Nat × Cel × List Cel=>inF f x.2.1=true∧0≤R.getD (zal f x.2.1) default∧R.getD (zal f x.2.1) default≤x.1∧(zcn f a b).1.getD (zal f x.2.1) default=R.getD (zal f x.2.1) default∧R.getD (zal f x.2.1) default+zbb b x.2.1≤R.getD (zal f b) default∧x.2.2++zxz R f a x.1 x.2.1=b::zxz R f a (R.getD (zal f b) default).toNat b∧x.2.2.length+x.1≤4801) (fun x:Nat × Cel × List Cel=>x.1) (((R.getD (zal f b) default).toNat,b,[b])) (⟨hb,h0,by simp only;omega,hend.1,by simp only[zbb];omega,rfl,by have:=(z6k s hpx.2.2.2.2 _ (show zal f b<f.p.length by rw[←s.ass.len];exact hbF)).2;rw[hend.1]at this;simp only[List.length_singleton];omega⟩) (To.mk [3,4,5,1,2,7,6] rfl rfl (by decide) ?_ ?_) ?_
   ·(iterate 2((try simp(etaStruct := .none)only[push_cast,zab,seval,srB,za6]);(try(refine xsu ?_;try exact xtI))))
   ·simp(etaStruct := .none)only[push_cast,zab,seval]
   rintro⟨N,c,out⟩ ⟨hc,hc0,hcN,hfc,hcb,hway,hlen⟩
   simp only at hc hc0 hcN hfc hcb hway hlen
   (iterate 2((try simp(etaStruct := .none)only[push_cast,seval]);(try(refine xsu ?_;try exact xtI))))
   refine cI (fun h2 => ?_) fun h2 => ?_
   ·have hca:c≠a:=cel_ne.1 (fun h=>by rcases h2 with h2|h2;exact h2 h.1;exact h2 h.2)
    have hwc:=z2l s hf hpa hc hc0
    have hci:=inF_iff.1 hc
    have hfo:=zbh hf
    have hkv:=zxt (zah f c)
    have hcF:zal f c<(zcn f a b).1.length:=by rw[s.ass.len];exact(zbd s.w s.h s.w0 hf hc).2
    obtain⟨n1,n2,n3,n4,n5⟩:=z32 s hf ha hb hc hc0 h0 hcb hca
    obtain⟨M,rfl⟩:∃M,N=M+1:=⟨N-1,by omega⟩
    (iterate 2((try simp(etaStruct := .none)only[push_cast,seval]);(try(refine xsu ?_;try exact xtI))))
    refine zcl (zr2 f b (zcn f a b).1 (zcn f a b).2 c hf) (WkL.refl _) rfl ?_
    rw[hwc]
    (iterate 2((try simp(etaStruct := .none)only[push_cast,seval]);(try(refine xsu ?_;try exact xtI))))
    refine caP (zt4 c (by omega) (by omega)) ?_
    (iterate 2((try simp(etaStruct := .none)only[push_cast,seval]);(try(refine xsu ?_;try exact xtI))))
    refine zay (fun k:Nat=>⟨[(43,I .i64 k),(42,.agg [I .i64 c.x,I .i64 (c.y-1),I .i64 (c.x-1),I .i64 c.y,I .i64 (c.x+1),I .i64 c.y,I .i64 c.x,I .i64 (c.y+1)]),(13,I .i64 (kV (zah f c))),(12,.ptr 5 0 0),(11,.own 6),(9,.ptr 0 0 0),(5,.ptr 4 0 0),(4,.ptr 3 0 0)],[(0,srB f b (.own 1) (.own 2)),(1,.row 3 1 ((zcn f a b).1.map zac)),(2,.row 327 4 ((zcn f a b).2.map zbt)),(3,.blk 46 [I .i64 a.x,I .i64 a.y]),(4,.blk 46 [I .i64 b.x,I .i64 b.y]),(5,.blk 46 [I .i64 c.x,I .i64 c.y]),(6,.row 46 2 (out.map za6))],7⟩) (fun k:Nat=>k≤4∧∀i,i<k→¬PP f (zcn f a b).1 c ((zaf c).getD i default)) (fun k:Nat=>4-k) (0) (⟨Nat.zero_le _,fun i h=>absurd h (Nat.not_lt_zero _)⟩) (To.mk [0,1,2,3,4,5,6] rfl rfl (by decide) ?_ ?_) ?_
    ·simp(etaStruct := .none)only[push_cast,zab,seval]
    ·simp(etaStruct := .none)only[push_cast,zab,seval]
    rintro k ⟨hk,hno⟩
    (iterate 2((try simp(etaStruct := .none)only[push_cast,seval]);(try(refine xsu ?_;try exact xtI))))
    refine cI (fun h3 => ?_) fun h3 => ?_
    ·have hlt:k<4:=by omega
     have hsc:=zj8 c k hlt
     have hgG:z9u f ((zaf c).getD k default)<(zcn f a b).1.length:=by rw[s.ass.len];exact z0l hf _
     have hbG:=z6k s hpx.2.2.2.2 (z9u f ((zaf c).getD k default)) (by rw[←s.ass.len];exact hgG)
     (iterate 2((try simp(etaStruct := .none)only[push_cast,seval,hsc,zaa _ _ _ hgG,zaa _ _ _ hcF,zac]);(try(refine xsu ?_;try exact xtI))))
     refine zcl (zr2 f b (zcn f a b).1 (zcn f a b).2 ((zaf c).getD k default) hf) (WkL.refl _) rfl ?_
     (iterate 2((try simp(etaStruct := .none)only[push_cast,seval,hsc,zaa _ _ _ hgG,zaa _ _ _ hcF,zac]);(try(refine xsu ?_;try exact xtI))))
     refine zbk [some 52,some 53,some 54,some 55,some 56,some 57,some 58,some 59,some 60,some 61,some 62,some 63,some 64,some 65,some 66,some 67,some 68,some 69,some 70,some 71,some 72,some 73,some 74,some 75,some 76,some 77,some 78,some 79,some 80,some 81,some 82,some 83,some 84,some 85,some 86,some 87] rfl ?_
     intro Oq lq Rq hlq hdq hRq
     subst hlq
     iterate 8(refine zax fun rq hrq => ?_;(iterate 2((try simp(etaStruct := .none)only[push_cast,seval,hdq,id,hsc,zaa _ _ _ hgG,zaa _ _ _ hcF,zac]);(try(refine xsu ?_;try exact xtI))));subst hrq)
     refine zax fun rq hrq => ?_
     (iterate 2((try simp(etaStruct := .none)only[push_cast,seval,hdq,id,hsc,zaa _ _ _ hgG,zaa _ _ _ hcF,zac]);(try(refine xsu ?_;try exact xtI))))
     refine zk9 (fun hcc=>zkl f b (zcn f a b).1 (zcn f a b).2 ((zaf c).getD k default) hf hcc) (WkL.refl _) rfl (by intro hc;(try simp(etaStruct := .none)only[push_cast,zab,seval]);(try simp_all)) ?_
     (iterate 2((try simp(etaStruct := .none)only[push_cast,seval,hdq,id,hsc,zaa _ _ _ hgG,zaa _ _ _ hcF,zac]);(try(refine xsu ?_;try exact xtI))))
     subst hrq
     iterate 11(refine zax fun rq hrq => ?_;(iterate 2((try simp(etaStruct := .none)only[push_cast,seval,hdq,id,hsc,zaa _ _ _ hgG,zaa _ _ _ hcF,zac]);(try(refine xsu ?_;try exact xtI))));subst hrq)
     refine zax fun rq hrq => ?_
     (iterate 2((try simp(etaStruct := .none)only[push_cast,seval,hdq,id,hsc,zaa _ _ _ hgG,zaa _ _ _ hcF,zac]);(try(refine xsu ?_;try exact xtI))))
     refine zk9 (fun hcc=>zkl f b (zcn f a b).1 (zcn f a b).2 ((zaf c).getD k default) hf (by simp only[Bool.and_eq_true]at hcc;exact hcc.1)) (WkL.refl _) rfl (by intro hc;(try simp(etaStruct := .none)only[push_cast,zab,seval]);(try simp_all)) ?_
     (iterate 2((try simp(etaStruct := .none)only[push_cast,seval,hdq,id,hsc,zaa _ _ _ hgG,zaa _ _ _ hcF,zac]);(try(refine xsu ?_;try exact xtI))))
     subst hrq
     iterate 10(refine zax fun rq hrq => ?_;(iterate 2((try simp(etaStruct := .none)only[push_cast,seval,hdq,id,hsc,zaa _ _ _ hgG,zaa _ _ _ hcF,zac]);(try(refine xsu ?_;try exact xtI))));subst hrq)
     refine zax fun rq hrq => ?_
     (iterate 2((try simp(etaStruct := .none)only[push_cast,seval,hdq,id,hsc,zaa _ _ _ hgG,zaa _ _ _ hcF,zac]);(try(refine xsu ?_;try exact xtI))))
     refine zk9 (fun hcc=>zd4 f b (zcn f a b).1 (zcn f a b).2 c hf hc) (WkL.refl _) rfl (by intro hc;(try simp(etaStruct := .none)only[push_cast,zab,seval]);(try simp_all)) ?_
     (iterate 2((try simp(etaStruct := .none)only[push_cast,seval,hdq,id,hsc,zaa _ _ _ hgG,zaa _ _ _ hcF,zac]);(try(refine xsu ?_;try exact xtI))))
     subst hrq
     iterate 4(refine zax fun rq hrq => ?_;(iterate 2((try simp(etaStruct := .none)only[push_cast,seval,hdq,id,hsc,zaa _ _ _ hgG,zaa _ _ _ hcF,zac]);(try(refine xsu ?_;try exact xtI))));subst hrq)
     refine zlu ?_
     subst hRq
     clear hdq Oq
     refine zlt (by kernel_rfl) ?_
     (iterate 2((try simp(etaStruct := .none)only[push_cast,seval,hsc,zaa _ _ _ hgG,zaa _ _ _ hcF,zac]);(try(refine xsu ?_;try exact xtI))))
     refine cI (fun h4 => ?_) fun h4 => ?_
     ·have hin2:inF f ((zaf c).getD k default)=true:=by
       cases hi:inF f ((zaf c).getD k default)with
       | true=>rfl
       | false=>have:=h4.1.1;unfold zcq at this;rw[hi]at this;simp at this
      have hPP:PP f (zcn f a b).1 c ((zaf c).getD k default):=⟨h4.1.1,by rw[←zin hin2];exact h4.1.2,by rw[←zin hin2];exact h4.2⟩
      have hnk:=z3o s hf ha hb hpa hc hc0 h0 hcb hfc hlt hno hPP
      rw[zxz,if_neg hca]at hway
      (iterate 2((try simp(etaStruct := .none)only[push_cast,seval,hsc,zaa _ _ _ hgG,zaa _ _ _ hcF,zac,hnk]);(try(refine xsu ?_;try exact xtI))))
      refine⟨(M,zlq R f c,out ++ [zlq R f c]),⟨n1,n2,by simp only;omega,n5,n4,by simp only;rw[List.append_assoc];exact hway,by simp only[List.length_append,List.length_singleton];omega⟩,by simp only;omega,To.mk [0,1,2,3,4,154,153] rfl rfl (by decide) ?_ ?_⟩
      ·(iterate 2((try simp(etaStruct := .none)only[push_cast,zab,seval,List.map_append,za6]);(try(refine xsu ?_;try exact xtI))))
      ·(iterate 2((try simp(etaStruct := .none)only[push_cast,seval,hsc,zaa _ _ _ hgG,zaa _ _ _ hcF,zac,hnk]);(try(refine xsu ?_;try exact xtI))))
     ·have hno2:∀i,i<k+1→¬PP f (zcn f a b).1 c ((zaf c).getD i default):=fun i hi=>by
       rcases Nat.lt_or_ge i k with h|h
       ·exact hno i h
       ·obtain rfl:i=k:=by omega
        rintro⟨p1,p2,p3⟩
        have hin2:inF f ((zaf c).getD i default)=true:=by
         cases hi:inF f ((zaf c).getD i default)with
         | true=>rfl
         | false=>unfold zcq at p1;rw[hi]at p1;simp at p1
        rw[←zin hin2]at p2 p3
        rcases h4 with (h4|h4)|h4
        ·rw[p1]at h4;exact absurd h4 (by decide)
        ·omega
        ·exact h4 p3
      (iterate 2((try simp(etaStruct := .none)only[push_cast,seval,hsc,zaa _ _ _ hgG,zaa _ _ _ hcF,zac]);(try(refine xsu ?_;try exact xtI))))
      refine⟨k+1,⟨by omega,hno2⟩,by omega,To.mk [0,1,2,3,4,5,6] rfl rfl (by decide) ?_ ?_⟩
      ·(iterate 2((try simp(etaStruct := .none)only[push_cast,seval,hsc,zaa _ _ _ hgG,zaa _ _ _ hcF,zac]);(try(refine xsu ?_;try exact xtI))))
      ·(iterate 2((try simp(etaStruct := .none) (maxSteps:=1000000)only[push_cast,zab,seval]);(try(refine xsu ?_;try exact xtI))))
    ·obtain rfl:k=4:=by omega
     exact(ygh s hf ha hb hpa hc hc0 h0 hcb hfc hca hno).elim
   ·have hca:c=a:=Decidable.byContradiction fun h=>cel_ne.2 h h2
    have hout:out=b::zxz R f a (R.getD (zal f b) default).toNat b:=by
     have e0:zxz R f a N c = []:=by
      cases N with
      | zero=>rfl
      | succ N=>rw[zxz,if_pos hca]
     rw[←hway,e0,List.append_nil]
    have hov:out.reverse=ya3 R f a b:=by unfold ya3;rw[hout]
    (iterate 2((try simp(etaStruct := .none)only[push_cast,seval,zaa _ _ _ hbF,zac,hend.1,hov]);(try(refine xsu ?_;try exact xtI))))
    refine caM [6] (yan out (by omega)) ?_
    (iterate 2((try simp(etaStruct := .none)only[push_cast,seval,zaa _ _ _ hbF,zac,hend.1,hov]);(try(refine xsu ?_;try exact xtI))))
    refine zbk [some 97,some 98,some 99,some 100,some 101,some 102,some 103,some 104,some 105,some 106,some 6,some 7,some 8] rfl ?_
    intro Oq lq Rq hlq hdq hRq
    subst hlq
    iterate 7(refine zax fun rq hrq => ?_;(iterate 2((try simp(etaStruct := .none)only[push_cast,seval,hdq,id,zaa _ _ _ hbF,zac,hend.1,hov]);(try(refine xsu ?_;try exact xtI))));subst hrq)
    refine zax fun rq hrq => ?_
    (iterate 2((try simp(etaStruct := .none)only[push_cast,seval,hdq,id,zaa _ _ _ hbF,zac,hend.1,hov]);(try(refine xsu ?_;try exact xtI))))
    refine zcl (zd4 f b (zcn f a b).1 (zcn f a b).2 b hf hb) (WkL.refl _) rfl ?_
    (iterate 2((try simp(etaStruct := .none)only[push_cast,seval,hdq,id,zaa _ _ _ hbF,zac,hend.1,hov]);(try(refine xsu ?_;try exact xtI))))
    subst hrq
    iterate 5(refine zax fun rq hrq => ?_;(iterate 2((try simp(etaStruct := .none)only[push_cast,seval,hdq,id,zaa _ _ _ hbF,zac,hend.1,hov]);(try(refine xsu ?_;try exact xtI))));subst hrq)
    refine zlu ?_
    subst hRq
    clear hdq Oq
    refine zlt (by kernel_rfl) ?_
    (iterate 2((try simp(etaStruct := .none)only[push_cast,seval,zaa _ _ _ hbF,zac,hend.1,hov]);(try(refine xsu ?_;try exact xtI))))
    exact xrz rfl
theorem z9p {α : Type} [Inhabited α] {p : α → Bool} {l:List α} {x : α} (h:l.find? p=some x):∃i:Nat,zjc p l=(i:Int)∧i<l.length∧l.getD i default=x:=by
 rw[List.find?_eq_some_iff_getElem]at h
 obtain⟨h1,i,hi,rfl,h2⟩:=h
 exact⟨i,zdq p l i hi h1 (fun j hj hji=>by simpa using h2 j hji),hi,zad _ _ hi⟩
end Go.Proofs.YtmjbgbmegbkmhaaGreat
namespace Go.Proofs.YtmjbgbmegbkmhaaGreat
set_option linter.all false
open Go.RowKit
set_option maxRecDepth 100000
def zxp (f:Fld) (WR:Cel→List Int) (a b:Cel):List Cel:=if zlk (WR a) f a b=0 then ya3 (WR a) f a b else []
theorem ybh (f:Fld):∃WR:Cel→List Int,∀a,zap f [a] (WR a):=⟨fun a=>Classical.choose (zvd f [a]),fun a=>Classical.choose_spec (zvd f [a])⟩
def zn6 (l:List Gop) (i:Int):Option Gop:=l.find? fun g=>decide (g.id=i)
def zrt (t:Trp) (c:Cel):Trp:={ t with c:=c }
def zo4 (f:Fld) (WR:Cel→List Int) (l:List Gop) (ts:List Trp) (t:Trp):Option Cel:=match zn6 l t.id with
 | none=>none
 | some g=>if (zxp f WR t.c g.to).length<2∨(ts.any fun o=>decide (o.c=(zxp f WR t.c g.to).getD 1 default))=true then none else some ((zxp f WR t.c g.to).getD 1 default)
def zd6 (f:Fld) (WR:Cel→List Int) (l:List Gop) (s:List Trp × List Int) (i:Nat):List Trp × List Int:=match zo4 f WR l s.1 (s.1.getD i default)with
 | none=>s
 | some c=>(s.1.set i (zrt (s.1.getD i default) c),s.2 ++ [(s.1.getD i default).id])
def zd7 (f:Fld) (WR:Cel→List Int) (l:List Gop) (ts:List Trp) (k:Nat):List Trp × List Int:=(List.range k).foldl (zd6 f WR l) (ts,[])
theorem zkx (f:Fld) (WR:Cel→List Int) (l:List Gop) (ts:List Trp):zd7 f WR l ts 0=(ts,[]):=rfl
theorem zgx (f:Fld) (WR:Cel→List Int) (l:List Gop) (ts:List Trp) (k:Nat):zd7 f WR l ts (k+1)=zd6 f WR l (zd7 f WR l ts k) k:=by
 unfold zd7;rw[List.range_succ,List.foldl_append];rfl
theorem zw1 (f:Fld) (WR:Cel→List Int) (l:List Gop) (s:List Trp × List Int) (i:Nat):(zd6 f WR l s i).1.length=s.1.length∧(zd6 f WR l s i).2.length≤s.2.length+1:=by
 unfold zd6
 split
 ·exact⟨rfl,by omega⟩
 ·simp
theorem zil (f:Fld) (WR:Cel→List Int) (l:List Gop) (ts:List Trp):∀k,(zd7 f WR l ts k).1.length=ts.length∧(zd7 f WR l ts k).2.length≤k
 | 0=>⟨rfl,Nat.le_refl _⟩
 | k+1=>by
  rw[zgx]
  have h1:=zil f WR l ts k
  have h2:=zw1 f WR l (zd7 f WR l ts k) k
  omega
def zgi (f:Fld) (WR:Cel→List Int) (l:List Gop) (ts:List Trp):List Trp × List Int:=zd7 f WR l ts ts.length
def zln (c:Cel):List Trp→Nat
 | []=>0
 | t::r=>(if t.c=c then 1 else 0)+zln c r
theorem zoc (c:Cel):∀l,zln c l≤l.length
 | []=>Nat.le_refl _
 | t::r=>by have:=zoc c r;rw[zln,List.length_cons];split<;>omega
theorem zle (c:Cel) (m:List Trp):∀l,zln c (l++m)=zln c l+zln c m
 | []=>by simp[zln]
 | t::r=>by rw[List.cons_append,zln,zln,zle c m r];omega
theorem zvo (c:Cel) (t:Trp):∀(l:List Trp) (i:Nat),i<l.length→zln c (l.set i t)+(if (l.getD i default).c=c then 1 else 0)=zln c l+(if t.c=c then 1 else 0)
 | [],i,h=>by simp at h
 | a::r,0,_=>by rw[List.set_cons_zero,zln,zln,List.getD_cons_zero];omega
 | a::r,i+1,h=>by
  have:=zvo c t r i (by simpa using h)
  rw[List.set_cons_succ,zln,zln,List.getD_cons_succ];omega
theorem zvp (c:Cel):∀l:List Trp,0<zln c l↔(l.any fun o=>decide (o.c=c))=true
 | []=>by simp[zln]
 | t::r=>by
  rw[zln,List.any_cons]
  have:=zvp c r
  by_cases h:t.c=c
  ·simp[h];omega
  ·simp only[h,if_false,decide_false,Bool.false_or,Nat.zero_add];exact this
def CntM (ts:List Trp) (es:List (List Int × Int)):Prop:=∀x y:Int,zcw [x,y] es=(zln ⟨x,y⟩ ts:Int)
theorem CntM.add {ts:List Trp} {es:List (List Int × Int)} (h:CntM ts es) (t:Trp):CntM (ts ++ [t]) (zf4 [t.c.x,t.c.y] (zcw [t.c.x,t.c.y] es+1) es):=by
 intro x y
 rw[zb2,zle,zln,zln]
 obtain⟨i,o,kd,⟨cx,cy⟩,li,lo⟩:=t
 simp only
 by_cases e:x=cx∧y=cy
 ·obtain⟨rfl,rfl⟩:=e
  rw[if_pos rfl,if_pos rfl,h];omega
 ·rw[if_neg (by simpa using e),if_neg (fun he=>e (by cases he;exact⟨rfl,rfl⟩)),h];omega
theorem CntM.move {ts:List Trp} {es:List (List Int × Int)} (h:CntM ts es) {i:Nat} (hi:i<ts.length) (c:Cel) :
 CntM (ts.set i (zrt (ts.getD i default) c)) (zf4 [c.x,c.y] (zcw [c.x,c.y] (zf4 [(ts.getD i default).c.x,(ts.getD i default).c.y] (zcw [(ts.getD i default).c.x,(ts.getD i default).c.y] es-1) es)+1) (zf4 [(ts.getD i default).c.x,(ts.getD i default).c.y] (zcw [(ts.getD i default).c.x,(ts.getD i default).c.y] es-1) es)):=by
 intro x y
 have hs:=zvo ⟨x,y⟩ (zrt (ts.getD i default) c) ts i hi
 obtain⟨cx,cy⟩:=c
 have e2:(zrt (ts.getD i default) ⟨cx,cy⟩).c=⟨cx,cy⟩:=rfl
 rw[e2]at hs
 rcases ho:(ts.getD i default).c with ⟨ox,oy⟩
 rw[ho]at hs
 simp only at hs ⊢
 have k1:(([x,y]:List Int) = [cx,cy])=((⟨cx,cy⟩:Cel)=⟨x,y⟩):=by
  apply propext;constructor<;>intro h<;>cases h<;>rfl
 have k2:(([x,y]:List Int) = [ox,oy])=((⟨ox,oy⟩:Cel)=⟨x,y⟩):=by
  apply propext;constructor<;>intro h<;>cases h<;>rfl
 have k3:(([cx,cy]:List Int) = [ox,oy])=((⟨ox,oy⟩:Cel)=⟨cx,cy⟩):=by
  apply propext;constructor<;>intro h<;>cases h<;>rfl
 have h':∀x y:Int,zcw [x,y] es=(zln ⟨x,y⟩ ts:Int):=h
 rw[zb2,zb2,zb2]
 simp only[k1,k2,k3,h']
 by_cases a1:(⟨cx,cy⟩:Cel)=⟨x,y⟩
 ·have e3:x=cx∧y=cy:=by cases a1;exact⟨rfl,rfl⟩
  obtain⟨rfl,rfl⟩:=e3
  rw[if_pos rfl]at hs ⊢
  by_cases a2:(⟨ox,oy⟩:Cel)=⟨x,y⟩
  ·have e4:ox=x∧oy=y:=by cases a2;exact⟨rfl,rfl⟩
   obtain⟨rfl,rfl⟩:=e4
   rw[if_pos rfl]at hs ⊢;omega
  ·rw[if_neg a2]at hs
   rw[if_neg a2];omega
 ·rw[if_neg a1]at hs ⊢
  by_cases a2:(⟨ox,oy⟩:Cel)=⟨x,y⟩
  ·have e4:ox=x∧oy=y:=by cases a2;exact⟨rfl,rfl⟩
   obtain⟨rfl,rfl⟩:=e4
   rw[if_pos rfl]at hs ⊢;omega
  ·rw[if_neg a2]at hs ⊢;omega
end Go.Proofs.YtmjbgbmegbkmhaaGreat
namespace Go.Proofs.YtmjbgbmegbkmhaaGreat
set_option linter.all false
open Go.RowKit
set_option maxRecDepth 100000
set_option maxHeartbeats 2000000
abbrev yi4 (g:Gop):AV := .agg [I .i64 g.id,I .i64 g.to.x,I .i64 g.to.y]
def zxu (t:Trp) (g:Gop):Bool:=decide (g.id=t.id)
theorem yc4 (ts:List Trp) (i:Nat) (hi:i<ts.length) (g:Gop):Spec Tryz.prog 133 [yi4 g,.ptr 0 0 0] [.blk 265 [.ptr 1 i 0],.row 108 7 (ts.map zat)] (B (zxu (ts.getD i default) g)) [.blk 265 [.ptr 1 i 0],.row 108 7 (ts.map zat)]:=by
 refine spB Tryz.func133 11 [.tmp 3] Tryz.results133 ?_
 try refine xz2 (gd hi) zbf ?_
 (try(refine⟨by kernel_rfl,?_⟩))
 try refine xz2 (gd hi) zbf ?_
 refine zb6 [0,1] rfl rfl (by decide) ⟨?_,?_,trivial⟩ trivial ?_<;>simp(etaStruct := .none)only[push_cast,zab,seval,zxu]
theorem ydr (ts:List Trp) (i:Nat) (hi:i<ts.length)(l:List Gop) (hl:l.length≤1000000):Spec Tryz.prog 132 [.c (.sl 3 (l.map zeh)),.clo (.func 133) [] [.ptr 0 0 0]] ([.blk 265 [.ptr 1 i 0],.row 108 7 (ts.map zat)]) (I .i64 (zjc (zxu (ts.getD i default)) l)) ([.blk 265 [.ptr 1 i 0],.row 108 7 (ts.map zat)]):=by
 refine spB Tryz.func132 19 [.tmp 4] Tryz.results132 ?_
 try refine xst ?_
 refine zay (fun k:Nat=>⟨[(8,I .i64 k),(7,I .i64 l.length),(1,.clo (.func 133) [] [.ptr 0 0 0]),(0,.c (.sl 3 (l.map zeh)))],[(0,.blk 265 [.ptr 1 i 0]),(1,.row 108 7 (ts.map zat))],2⟩) (fun k:Nat=>k≤l.length∧∀j (hj:j<l.length),j<k→(zxu (ts.getD i default)) l[j]=false) (fun k:Nat=>l.length-k) (0) (⟨Nat.zero_le _,fun j _ h=>absurd h (Nat.not_lt_zero _)⟩) (To.mk [0,1] rfl rfl (by decide) ?_ ?_) ?_
 ·simp(etaStruct := .none)only[push_cast,zab,seval]
 ·simp(etaStruct := .none)only[push_cast,zab,seval]
 rintro k ⟨hk,hno⟩
 try refine xst ?_
 refine cI (fun h1 => ?_) fun h1 => ?_
 ·have hlt:k<l.length:=by omega
  try refine xz2 (gd hlt) zmk ?_
  refine caM [0,1] (yc4 ts i hi (l.getD k default)) ?_
  try refine xz2 (gd hlt) zmk ?_
  refine cI (fun h2 => ?_) fun h2 => ?_
  ·have e:=zdq (zxu (ts.getD i default)) l k hlt (by rw[←zad l k hlt];exact h2) hno
   rw[e]
   try refine xz2 (gd hlt) zmk ?_
   refine zb6 [0,1] rfl rfl (by decide) ⟨?_,?_,trivial⟩ trivial ?_<;>simp(etaStruct := .none)only[push_cast,zab,seval]
  ·have hno2:∀j (hj:j<l.length),j<k+1→(zxu (ts.getD i default)) l[j]=false:=fun j hj h=>by
    rcases Nat.lt_or_ge j k with h3|h3
    ·exact hno j hj h3
    ·obtain rfl:j=k:=by omega
     rw[←zad l j hj];exact h2
   try refine xz2 (gd hlt) zmk ?_
   refine⟨k+1,⟨by omega,hno2⟩,by omega,To.mk [0,1] rfl rfl (by decide) ?_ ?_⟩
   ·(try(refine xz2 (gd hlt) zmk ?_;try exact xtI))
   ·(try(refine xz2 (gd hlt) zmk ?_;try exact xtI))
 ·have e:=zct (zxu (ts.getD i default)) l (fun j hj=>hno j hj (by omega))
  rw[e]
  try refine xst ?_
  refine zb6 [0,1] rfl rfl (by decide) ⟨?_,?_,trivial⟩ trivial ?_<;>simp(etaStruct := .none)only[push_cast,zab,seval]
theorem zve {l:List Gop} {t:Trp} : (zn6 l t.id=none∧zjc (zxu t) l = -1)∨∃(g:Gop) (j:Nat),zn6 l t.id=some g∧zjc (zxu t) l=(j:Int)∧j<l.length∧l.getD j default=g:=by
 cases h:zn6 l t.id with
 | none =>
  refine .inl ⟨rfl,?_⟩
  unfold zn6 at h
  refine zct _ l fun j hj => ?_
  have:=List.find?_eq_none.1 h _ (List.getElem_mem hj)
  unfold zxu;simpa using this
 | some g =>
  unfold zn6 at h
  obtain⟨j,h1,h2,h3⟩:=z9p (p:=zxu t) (l:=l) (x:=g) h
  exact .inr ⟨g,j,rfl,h1,h2,h3⟩
theorem zgw {f:Fld} {WR:Cel→List Int} {l:List Gop} {s:List Trp × List Int} {i:Nat} (h:zo4 f WR l s.1 (s.1.getD i default)=none):zd6 f WR l s i=s:=by unfold zd6;rw[h]
theorem zsb {f:Fld} {WR:Cel→List Int} {l:List Gop} {s:List Trp × List Int} {i:Nat} {c:Cel} (h:zo4 f WR l s.1 (s.1.getD i default)=some c):zd6 f WR l s i=(s.1.set i (zrt (s.1.getD i default) c),s.2 ++ [(s.1.getD i default).id]):=by unfold zd6;rw[h]
theorem zv8 {f:Fld} {WR:Cel→List Int} {l:List Gop} {ts:List Trp} {t:Trp} {g:Gop} (h:zn6 l t.id=some g):zo4 f WR l ts t=if (zxp f WR t.c g.to).length<2∨(ts.any fun o=>decide (o.c=(zxp f WR t.c g.to).getD 1 default))=true then none else some ((zxp f WR t.c g.to).getD 1 default):=by unfold zo4;rw[h]
theorem z87 (w:Wld) (l:List Gop) (WR:Cel→List Int) (hWR:∀a,zap w.f [a] (WR a)) (hl:w.f.p.length≤9223372036854775807) (hll:l.length≤1000) (hnt:w.troops.length≤100):Spec Tryz.prog 91 [.agg [I .i64 w.f.w,I .i64 w.f.h,.c (.sl 1 (w.f.p.map zac)),.c (.sl 2 (w.bases.map za6)),.c (.sl 1 (w.stocks.map zac)),.c (.sl 1 (w.mines.map zac)),.own 0,I .i64 w.next,I .i64 w.now],.c (.sl 3 (l.map zeh))] [.row 108 7 (w.troops.map zat)]
 (.c (.sl 1 ((zgi w.f WR l w.troops).2.map zac))) [.row 108 7 ((zgi w.f WR l w.troops).1.map zat)]:=by
 refine spB Tryz.func91 110 [.tmp 4] Tryz.results91 ?_
 (iterate 2((try simp(etaStruct := .none)only[push_cast,seval,zag]);(try(refine xsu ?_;try exact xtI))))
 refine zay (fun x:Nat × List (List Int × Int)=>⟨[(19,I .i64 x.1),(18,I .i64 w.troops.length),(17,.own 0),(5,.map 2),(2,.ptr 1 0 0),(1,.c (.sl 3 (l.map zeh)))],[(0,.row 108 7 (w.troops.map zat)),(1,.blk 28 [I .i64 w.f.w,I .i64 w.f.h,.c (.sl 1 (w.f.p.map zac)),.c (.sl 2 (w.bases.map za6)),.c (.sl 1 (w.stocks.map zac)),.c (.sl 1 (w.mines.map zac)),.own 0,I .i64 w.next,I .i64 w.now]),(2,.mp true 2 x.2)],3⟩) (fun x:Nat × List (List Int × Int)=>x.1≤w.troops.length∧CntM (w.troops.take x.1) x.2) (fun x:Nat × List (List Int × Int)=>w.troops.length-x.1) ((0,[])) (⟨Nat.zero_le _,fun _ _=>rfl⟩) (To.mk [0,1,2] rfl rfl (by decide) ?_ ?_) ?_
 ·simp(etaStruct := .none)only[push_cast,zab,seval]
 ·simp(etaStruct := .none)only[push_cast,zab,seval]
 rintro⟨k,es⟩ ⟨hk,hc⟩
 simp only at hk hc
 (iterate 2((try simp(etaStruct := .none)only[push_cast,seval,zag]);(try(refine xsu ?_;try exact xtI))))
 refine cI (fun h1 => ?_) fun h1 => ?_
 ·have hlt:k<w.troops.length:=by omega
  have hca:=hc.add (w.troops.getD k default)
  rw[←zaq _ _ hlt]at hca
  have hcb:=hc (w.troops.getD k default).c.x (w.troops.getD k default).c.y
  have hcl:=zoc ⟨(w.troops.getD k default).c.x,(w.troops.getD k default).c.y⟩ (w.troops.take k)
  rw[List.length_take]at hcl
  have hmp:=zks [(w.troops.getD k default).c.x,(w.troops.getD k default).c.y] es
  (iterate 2((try simp(etaStruct := .none)only[push_cast,seval,zag,zaa _ _ _ hlt,zat]);(try(refine xsu ?_;try exact xtI))))
  refine zbk [some 23,some 24,some 25,some 26,some 27,some 28,some 29,none] rfl ?_
  intro Oq lq Rq hlq hdq hRq
  subst hlq
  iterate 8(refine zax fun rq hrq => ?_;(iterate 2((try simp(etaStruct := .none)only[push_cast,seval,hdq,id,zag,zaa _ _ _ hlt,zat]);(try(refine xsu ?_;try exact xtI))));subst hrq)
  refine zlu ?_
  subst hRq
  clear hdq Oq
  refine zlt (by kernel_rfl) ?_
  (iterate 2((try simp(etaStruct := .none)only[push_cast,seval,zag,zaa _ _ _ hlt,zat]);(try(refine xsu ?_;try exact xtI))))
  refine⟨(k+1,zf4 [(w.troops.getD k default).c.x,(w.troops.getD k default).c.y] (zcw [(w.troops.getD k default).c.x,(w.troops.getD k default).c.y] es+1) es),⟨by simp only;omega,hca⟩,by simp only;omega,To.mk [0,1,2] rfl rfl (by decide) ?_ ?_⟩
  ·(iterate 2((try simp(etaStruct := .none)only[push_cast,seval,zag,zaa _ _ _ hlt,zat]);(try(refine xsu ?_;try exact xtI))))
  ·(iterate 2((try simp(etaStruct := .none)only[push_cast,seval,zag,zaa _ _ _ hlt,zat]);(try(refine xsu ?_;try exact xtI))))
 ·obtain rfl:k=w.troops.length:=by omega
  rw[List.take_length]at hc
  (iterate 2((try simp(etaStruct := .none)only[push_cast,seval,zag]);(try(refine xsu ?_;try exact xtI))))
  refine zay (fun x:Nat × List (List Int × Int)=>⟨[(34,I .i64 x.1),(33,I .i64 w.troops.length),(8,.own 3),(5,.map 2),(2,.ptr 1 0 0),(1,.c (.sl 3 (l.map zeh)))],[(0,.row 108 7 ((zd7 w.f WR l w.troops x.1).1.map zat)),(1,.blk 28 [I .i64 w.f.w,I .i64 w.f.h,.c (.sl 1 (w.f.p.map zac)),.c (.sl 2 (w.bases.map za6)),.c (.sl 1 (w.stocks.map zac)),.c (.sl 1 (w.mines.map zac)),.own 0,I .i64 w.next,I .i64 w.now]),(2,.mp true 2 x.2),(3,.row 3 1 ((zd7 w.f WR l w.troops x.1).2.map zac))],4⟩) (fun x:Nat × List (List Int × Int)=>x.1≤w.troops.length∧CntM (zd7 w.f WR l w.troops x.1).1 x.2) (fun x:Nat × List (List Int × Int)=>w.troops.length-x.1) ((0,es)) (⟨Nat.zero_le _,hc⟩) ((To.nil 8 3 1 rfl).trans (To.mk [0,1,2,3] rfl rfl (by decide) ?_ ?_)) ?_
  ·simp(etaStruct := .none)only[push_cast,zab,seval,zkx,List.map_nil]
  ·simp(etaStruct := .none)only[push_cast,zab,seval]
  rintro⟨k,em⟩ ⟨hk,hm⟩
  simp only at hk hm
  have hln:=zil w.f WR l w.troops k
  have hsk:=zgx w.f WR l w.troops k
  obtain⟨S,hS⟩:∃S,S=zd7 w.f WR l w.troops k:=⟨_,rfl⟩
  rw[←hS]at hm hln hsk
  (iterate 2((try simp(etaStruct := .none)only[push_cast,seval,zag,←hS,hln.1]);(try(refine xsu ?_;try exact xtI))))
  refine cI (fun h2 => ?_) fun h2 => ?_
  ·have hlt:k<S.1.length:=by omega
   (iterate 2((try simp(etaStruct := .none)only[push_cast,seval,zag,←hS,hln.1,zaa _ _ _ hlt,zat]);(try(refine xsu ?_;try exact xtI))))
   refine caM [4,0] (ydr S.1 k hlt l (by omega)) ?_
   (iterate 2((try simp(etaStruct := .none)only[push_cast,seval,zag,←hS,hln.1,zaa _ _ _ hlt,zat]);(try(refine xsu ?_;try exact xtI))))
   refine cI (fun h3 => ?_) fun h3 => ?_
   ·have hnone:zn6 l (S.1.getD k default).id=none:=by
     rcases zve (l:=l) (t:=S.1.getD k default)with ⟨h,_⟩|⟨_,j,_,h,_⟩
     ·exact h
     ·rw[h]at h3;omega
    have hms:zd6 w.f WR l S k=S:=zgw (by unfold zo4;rw[hnone])
    (iterate 2((try simp(etaStruct := .none)only[push_cast,seval,zag,←hS,hln.1,zaa _ _ _ hlt,zat]);(try(refine xsu ?_;try exact xtI))))
    refine⟨(k+1,em),⟨by simp only;omega,by simp only;rw[hsk,hms];exact hm⟩,by simp only;omega,To.mk [0,1,2,3] rfl rfl (by decide) ?_ ?_⟩
    ·(try(refine xz2 hsk hms ?_;try exact xtI))
    ·(iterate 2((try simp(etaStruct := .none)only[push_cast,seval,zag,←hS,hln.1,zaa _ _ _ hlt,zat]);(try(refine xsu ?_;try exact xtI))))
   ·obtain⟨g,j,hg,hj,hjl,hge⟩:∃(g:Gop) (j:Nat),zn6 l (S.1.getD k default).id=some g∧zjc (zxu (S.1.getD k default)) l=(j:Int)∧j<l.length∧l.getD j default=g:=by
     rcases zve (l:=l) (t:=S.1.getD k default)with ⟨_,h⟩|h
     ·rw[h]at h3;omega
     ·exact h
    obtain⟨wl,hwl⟩:∃wl,wl=zxp w.f WR (S.1.getD k default).c g.to:=⟨_,rfl⟩
    have hwy:(if zlk (WR (S.1.getD k default).c) w.f (S.1.getD k default).c g.to=0 then ya3 (WR (S.1.getD k default).c) w.f (S.1.getD k default).c g.to else [])=wl:=hwl.symm
    have hst:=zv8 (f:=w.f) (WR:=WR) (ts:=S.1) hg
    rw[←hwl]at hst
    rcases Nat.lt_or_ge wl.length 2 with hA|hB
    ·have hms:zd6 w.f WR l S k=S:=zgw (by rw[hst,if_pos (.inl hA)])
     have hAg:(wl.map za6).getD 1 [] = []:=by rw[List.getD_eq_getElem?_getD,List.getElem?_eq_none (by rw[List.length_map];omega)];rfl
     have hAl:((wl.length:Int)<2)=True:=eq_true (by omega)
     (iterate 2((try simp(etaStruct := .none)only[push_cast,seval,zag,←hS,hln.1,zaa _ _ _ hlt,zat,hj,zaa _ _ _ hjl,hge,zeh]);(try(refine xsu ?_;try exact xtI))))
     refine zbk [some 47,some 48,some 49,some 50,some 51,some 52,some 53,some 54,some 55,some 56,some 57,some 58,some 46,some 59,some 60,some 61,some 12,some 13,some 14] rfl ?_
     intro Oq lq Rq hlq hdq hRq
     subst hlq
     iterate 11(refine zax fun rq hrq => ?_;(iterate 2((try simp(etaStruct := .none)only[push_cast,seval,hdq,id,zag,←hS,hln.1,zaa _ _ _ hlt,zat,hj,zaa _ _ _ hjl,hge,zeh]);(try(refine xsu ?_;try exact xtI))));subst hrq)
     refine zax fun rq hrq => ?_
     (iterate 2((try simp(etaStruct := .none)only[push_cast,seval,hdq,id,zag,←hS,hln.1,zaa _ _ _ hlt,zat,hj,zaa _ _ _ hjl,hge,zeh]);(try(refine xsu ?_;try exact xtI))))
     refine zdz (zy7 w.f (S.1.getD k default).c g.to hl (WR (S.1.getD k default).c) (hWR _)) (WkL.refl _) ?_
     rw[hwy]
     (iterate 2((try simp(etaStruct := .none)only[push_cast,seval,hdq,id,zag,←hS,hln.1,zaa _ _ _ hlt,zat,hj,zaa _ _ _ hjl,hge,zeh]);(try(refine xsu ?_;try exact xtI))))
     subst hrq
     iterate 7(refine zax fun rq hrq => ?_;(iterate 2((try simp(etaStruct := .none)only[push_cast,seval,hdq,id,zag,←hS,hln.1,zaa _ _ _ hlt,zat,hj,zaa _ _ _ hjl,hge,zeh]);(try(refine xsu ?_;try exact xtI))));subst hrq)
     refine zlu ?_
     subst hRq
     clear hdq Oq
     refine zlt (by kernel_rfl) ?_
     (iterate 2((try simp(etaStruct := .none)only[push_cast,seval,zag,←hS,hln.1,zaa _ _ _ hlt,zat,hAg,hAl,List.take_nil,List.map_nil]);(try(refine xsu ?_;try exact xtI))))
     refine zau (fun h4 => ?_) (fun h4 => ?_)
     ·(iterate 2((try simp(etaStruct := .none)only[push_cast,seval]);(try(refine xsu ?_;try exact xtI))))
      refine⟨(k+1,em),⟨by simp only;omega,by simp only;rw[hsk,hms];exact hm⟩,by simp only;omega,To.mk [0,1,2,3] rfl rfl (by decide) ?_ ?_⟩
      ·(try(refine xz2 hsk hms ?_;try exact xtI))
      ·(iterate 2((try simp(etaStruct := .none) (maxSteps:=1000000)only[push_cast,zab,seval]);(try(refine xsu ?_;try exact xtI))))
     ·simp at h4
    have hB1:1<wl.length:=by omega
    have hBl:((wl.length:Int)<2)=False:=eq_false (by omega)
    have hE0:zlk (WR (S.1.getD k default).c) w.f (S.1.getD k default).c g.to=0:=by
     rcases Decidable.em (zlk (WR (S.1.getD k default).c) w.f (S.1.getD k default).c g.to=0)with h|h
     ·exact h
     ·rw[hwl]at hB1;unfold zxp at hB1;rw[if_neg h]at hB1;simp at hB1
    have hcm:=hm (wl.getD 1 default).x (wl.getD 1 default).y
    have hcl:=zoc ⟨(wl.getD 1 default).x,(wl.getD 1 default).y⟩ S.1
    have hanyc:=zvp ⟨(wl.getD 1 default).x,(wl.getD 1 default).y⟩ S.1
    (iterate 2((try simp(etaStruct := .none)only[push_cast,seval,zag,←hS,hln.1,zaa _ _ _ hlt,zat,hj,zaa _ _ _ hjl,hge,zeh,zaa _ _ _ hB1,za6,hBl,hE0]);(try(refine xsu ?_;try exact xtI))))
    refine zbk [some 47,some 48,some 49,some 50,some 51,some 52,some 53,some 54,some 55,some 56,some 57,some 58,some 46,some 59,some 60,some 61,some 12,some 13,some 14] rfl ?_
    intro Oq lq Rq hlq hdq hRq
    subst hlq
    iterate 11(refine zax fun rq hrq => ?_;(iterate 2((try simp(etaStruct := .none)only[push_cast,seval,hdq,id,zag,←hS,hln.1,zaa _ _ _ hlt,zat,hj,zaa _ _ _ hjl,hge,zeh,zaa _ _ _ hB1,za6,hBl,hE0]);(try(refine xsu ?_;try exact xtI))));subst hrq)
    refine zax fun rq hrq => ?_
    (iterate 2((try simp(etaStruct := .none)only[push_cast,seval,hdq,id,zag,←hS,hln.1,zaa _ _ _ hlt,zat,hj,zaa _ _ _ hjl,hge,zeh,zaa _ _ _ hB1,za6,hBl,hE0]);(try(refine xsu ?_;try exact xtI))))
    refine caP (zy7 w.f (S.1.getD k default).c g.to hl (WR (S.1.getD k default).c) (hWR _)) ?_
    rw[hwy]
    (iterate 2((try simp(etaStruct := .none)only[push_cast,seval,hdq,id,zag,←hS,hln.1,zaa _ _ _ hlt,zat,hj,zaa _ _ _ hjl,hge,zeh,zaa _ _ _ hB1,za6,hBl,hE0]);(try(refine xsu ?_;try exact xtI))))
    subst hrq
    iterate 7(refine zax fun rq hrq => ?_;(iterate 2((try simp(etaStruct := .none)only[push_cast,seval,hdq,id,zag,←hS,hln.1,zaa _ _ _ hlt,zat,hj,zaa _ _ _ hjl,hge,zeh,zaa _ _ _ hB1,za6,hBl,hE0]);(try(refine xsu ?_;try exact xtI))));subst hrq)
    refine zlu ?_
    subst hRq
    clear hdq Oq
    refine zlt (by kernel_rfl) ?_
    (iterate 2((try simp(etaStruct := .none)only[push_cast,seval,zag,←hS,hln.1,zaa _ _ _ hlt,zat,hj,zaa _ _ _ hjl,hge,zeh,zaa _ _ _ hB1,za6,hBl,hE0]);(try(refine xsu ?_;try exact xtI))))
    refine cI (fun h4 => ?_) fun h4 => ?_
    ·have hms:zd6 w.f WR l S k=S:=zgw (by rw[hst,if_pos (.inr (hanyc.1 (by omega)))])
     (iterate 2((try simp(etaStruct := .none)only[push_cast,seval,zag,←hS,hln.1,zaa _ _ _ hlt,zat,hj,zaa _ _ _ hjl,hge,zeh,zaa _ _ _ hB1,za6,hBl,hE0]);(try(refine xsu ?_;try exact xtI))))
     refine⟨(k+1,em),⟨by simp only;omega,by simp only;rw[hsk,hms];exact hm⟩,by simp only;omega,To.mk [0,1,2,3] rfl rfl (by decide) ?_ ?_⟩
     ·(try(refine xz2 hsk hms ?_;try exact xtI))
     ·(iterate 2((try simp(etaStruct := .none)only[push_cast,seval,zag,←hS,hln.1,zaa _ _ _ hlt,zat,hj,zaa _ _ _ hjl,hge,zeh,zaa _ _ _ hB1,za6,hBl,hE0]);(try(refine xsu ?_;try exact xtI))))
    ·have hno:¬(S.1.any fun o=>decide (o.c=(wl.getD 1 default)))=true:=fun h=>by have:=hanyc.2 h;omega
     have hms:zd6 w.f WR l S k=(S.1.set k (zrt (S.1.getD k default) (wl.getD 1 default)),S.2 ++ [(S.1.getD k default).id]):=zsb (by rw[hst,if_neg (fun h=>by rcases h with h|h;omega;exact hno h)])
     have hmv:=hm.move hlt (wl.getD 1 default)
     have hmp1:=zks [(S.1.getD k default).c.x,(S.1.getD k default).c.y] em
     have hc1:=hm (S.1.getD k default).c.x (S.1.getD k default).c.y
     have hcl1:=zoc ⟨(S.1.getD k default).c.x,(S.1.getD k default).c.y⟩ S.1
     have hmp2:=zks [(wl.getD 1 default).x,(wl.getD 1 default).y] (zf4 [(S.1.getD k default).c.x,(S.1.getD k default).c.y] (zcw [(S.1.getD k default).c.x,(S.1.getD k default).c.y] em-1) em)
     have hb2 : -1≤zcw [(wl.getD 1 default).x,(wl.getD 1 default).y] (zf4 [(S.1.getD k default).c.x,(S.1.getD k default).c.y] (zcw [(S.1.getD k default).c.x,(S.1.getD k default).c.y] em-1) em)∧zcw [(wl.getD 1 default).x,(wl.getD 1 default).y] (zf4 [(S.1.getD k default).c.x,(S.1.getD k default).c.y] (zcw [(S.1.getD k default).c.x,(S.1.getD k default).c.y] em-1) em)≤100:=by
      rw[zb2];split<;>omega
     have hgs:∀x:List PV,((S.1.map zat).set k x).getD k []=x:=fun x=>by
      rw[List.getD_eq_getElem?_getD,List.getElem?_set_self (by rw[List.length_map];exact hlt)];rfl
     (iterate 2((try simp(etaStruct := .none)only[push_cast,seval,zag,←hS,hln.1,zaa _ _ _ hlt,zat,hj,zaa _ _ _ hjl,hge,zeh,zaa _ _ _ hB1,za6,hBl,hE0,hgs,List.length_set,List.set_set]);(try(refine xsu ?_;try exact xtI))))
     refine zbk [some 77,some 78,some 79,some 80,some 81,some 82,some 83,some 84,some 85,none] rfl ?_
     intro Oq lq Rq hlq hdq hRq
     subst hlq
     iterate 10(refine zax fun rq hrq => ?_;(iterate 2((try simp(etaStruct := .none)only[push_cast,seval,hdq,id,zag,←hS,hln.1,zaa _ _ _ hlt,zat,hj,zaa _ _ _ hjl,hge,zeh,zaa _ _ _ hB1,za6,hBl,hE0,hgs,List.length_set,List.set_set]);(try(refine xsu ?_;try exact xtI))));subst hrq)
     refine zlu ?_
     subst hRq
     clear hdq Oq
     refine zlt (by kernel_rfl) ?_
     (iterate 2((try simp(etaStruct := .none)only[push_cast,seval,zag,←hS,hln.1,zaa _ _ _ hlt,zat,hj,zaa _ _ _ hjl,hge,zeh,zaa _ _ _ hB1,za6,hBl,hE0,hgs,List.length_set,List.set_set]);(try(refine xsu ?_;try exact xtI))))
     refine zbk [some 86,some 87,some 88,some 89,some 90,some 91,none] rfl ?_
     intro Oq lq Rq hlq hdq hRq
     subst hlq
     iterate 7(refine zax fun rq hrq => ?_;(iterate 2((try simp(etaStruct := .none)only[push_cast,seval,hdq,id,zag,←hS,hln.1,zaa _ _ _ hlt,zat,hj,zaa _ _ _ hjl,hge,zeh,zaa _ _ _ hB1,za6,hBl,hE0,hgs,List.length_set,List.set_set]);(try(refine xsu ?_;try exact xtI))));subst hrq)
     refine zlu ?_
     subst hRq
     clear hdq Oq
     refine zlt (by kernel_rfl) ?_
     (iterate 2((try simp(etaStruct := .none)only[push_cast,seval,zag,←hS,hln.1,zaa _ _ _ hlt,zat,hj,zaa _ _ _ hjl,hge,zeh,zaa _ _ _ hB1,za6,hBl,hE0,hgs,List.length_set,List.set_set]);(try(refine xsu ?_;try exact xtI))))
     refine zbk [some 92,some 93,some 94,some 95,some 96,some 97,some 98,some 99,some 100,none] rfl ?_
     intro Oq lq Rq hlq hdq hRq
     subst hlq
     iterate 10(refine zax fun rq hrq => ?_;(iterate 2((try simp(etaStruct := .none)only[push_cast,seval,hdq,id,zag,←hS,hln.1,zaa _ _ _ hlt,zat,hj,zaa _ _ _ hjl,hge,zeh,zaa _ _ _ hB1,za6,hBl,hE0,hgs,List.length_set,List.set_set]);(try(refine xsu ?_;try exact xtI))));subst hrq)
     refine zlu ?_
     subst hRq
     clear hdq Oq
     refine zlt (by kernel_rfl) ?_
     (iterate 2((try simp(etaStruct := .none)only[push_cast,seval,zag,←hS,hln.1,zaa _ _ _ hlt,zat,hj,zaa _ _ _ hjl,hge,zeh,zaa _ _ _ hB1,za6,hBl,hE0,hgs,List.length_set,List.set_set]);(try(refine xsu ?_;try exact xtI))))
     refine⟨(k+1,zf4 [(wl.getD 1 default).x,(wl.getD 1 default).y] (zcw [(wl.getD 1 default).x,(wl.getD 1 default).y] (zf4 [(S.1.getD k default).c.x,(S.1.getD k default).c.y] (zcw [(S.1.getD k default).c.x,(S.1.getD k default).c.y] em-1) em)+1) (zf4 [(S.1.getD k default).c.x,(S.1.getD k default).c.y] (zcw [(S.1.getD k default).c.x,(S.1.getD k default).c.y] em-1) em)),⟨by simp only;omega,by simp only;rw[hsk,hms];exact hmv⟩,by simp only;omega,To.mk [0,1,2,190] rfl rfl (by decide) ?_ ?_⟩
     ·(iterate 2((try simp(etaStruct := .none)only[push_cast,zab,seval,hsk,hms,List.map_set,List.map_append,zat,zrt,zac]);(try(refine xsu ?_;try exact xtI))))
     ·(iterate 2((try simp(etaStruct := .none)only[push_cast,seval,zag,←hS,hln.1,zaa _ _ _ hlt,zat,hj,zaa _ _ _ hjl,hge,zeh,zaa _ _ _ hB1,za6,hBl,hE0,hgs,List.length_set,List.set_set]);(try(refine xsu ?_;try exact xtI))))
  ·obtain rfl:k=w.troops.length:=by omega
   have hmv:zgi w.f WR l w.troops=S:=hS.symm
   (iterate 2((try simp(etaStruct := .none)only[push_cast,seval,zag,←hS,hln.1]);(try(refine xsu ?_;try exact xtI))))
   refine zb6 [0] rfl rfl (by decide) ⟨?_,trivial⟩ trivial ?_<;>simp(etaStruct := .none)only[push_cast,zab,seval,hmv]
end Go.Proofs.YtmjbgbmegbkmhaaGreat
namespace Go.Proofs.YtmjbgbmegbkmhaaGreat
set_option linter.all false
open Go.RowKit
set_option maxRecDepth 100000
structure Right (w : Wld) : Prop where
 f:zbv w.f=0
 nb:w.bases.length≤8
 nt:w.troops.length≤100
 sl:w.stocks.length=w.bases.length
 ml:w.mines.length=w.f.p.length
 nx:1≤w.next∧w.next≤1000000
 nw:0≤w.now∧w.now≤1000000
 base:∀i,i<w.bases.length→zb0 w.f (w.bases.getD i default)=true∧(0≤w.stocks.getD i default∧w.stocks.getD i default≤1000000)∧∀j,j<i→w.bases.getD j default≠w.bases.getD i default
 mine:∀i,i<w.mines.length→(0≤w.mines.getD i default∧w.mines.getD i default≤1000000)∧(w.mines.getD i default=0∨w.f.p.getD i default=3)
 trp:∀k,k<w.troops.length→TrpOk w (w.troops.getD k default)
 ord:∀j k,j<k→k<w.troops.length→(w.troops.getD j default).id<(w.troops.getD k default).id∧(w.troops.getD j default).c≠(w.troops.getD k default).c
theorem zdm {w:Wld} (h:zao w=0):Right w:=by
 obtain⟨h1,h2,h3,h4,h5⟩:=zc6 h
 obtain⟨g1,g2,g3,g4⟩:=zjx h4
 unfold zhb at h5
 simp only[Bool.and_eq_true]at h5
 obtain⟨⟨b1,b2⟩,b3⟩:=h5
 rw[za9]at b1 b2 b3
 refine⟨h1,h2,h3,g1,g2,g3,g4,fun i hi => ?_,fun i hi => ?_,fun k hk=>(zew h hk).1,fun j k hjk hk => ?_⟩
 ·have:=b1 i hi
  unfold zl0 at this
  simp only[Bool.and_eq_true,within_iff]at this
  obtain⟨⟨a1,a2⟩,a3⟩:=this
  rw[za9]at a3
  exact⟨a1,a2,fun j hj=>by have:=a3 j hj;simpa using this⟩
 ·have:=b2 i hi
  unfold zlr at this
  simp only[Bool.and_eq_true,Bool.or_eq_true,within_iff,decide_eq_true_eq]at this
  exact this
 ·have h6:=(zew h hk).2
  unfold z6b at h6
  have:=(za9 _ _).1 h6 j hjk
  simp only[Bool.and_eq_true,decide_eq_true_eq,Bool.not_eq_true',decide_eq_false_iff_not]at this
  exact this
theorem Right.e {w:Wld} (h:Right w):zao w=0:=by
 have hb:¬(8<w.bases.length∨100<w.troops.length):=by have:=h.nb;have:=h.nt;omega
 refine zrd h.f hb ?_ ?_
 ·unfold ziy
  rw[decide_eq_true h.sl,decide_eq_true h.ml,(within_iff).2 h.nx,(within_iff).2 h.nw];rfl
 ·unfold zhb
  rw[Bool.and_eq_true,Bool.and_eq_true,za9,za9,za9]
  refine⟨⟨fun i hi => ?_,fun i hi => ?_⟩,fun i hi => ?_⟩
  ·obtain⟨a1,a2,a3⟩:=h.base i hi
   unfold zl0
   rw[a1,(within_iff).2 a2,Bool.true_and,Bool.true_and,za9]
   intro j hj
   rw[decide_eq_false (a3 j hj)];rfl
  ·obtain⟨a1,a2⟩:=h.mine i hi
   unfold zlr
   rw[(within_iff).2 a1,Bool.true_and,Bool.or_eq_true,decide_eq_true_eq,decide_eq_true_eq];exact a2
  ·have ok:=h.trp i hi
   unfold zel ya5 z6b
   rw[(within_iff).2 (by rcases ok.kind with e|e<;>omega),(within_iff).2 ok.id,(within_iff).2 ok.owner,ok.at_,(within_iff).2 ok.life,(within_iff).2 ok.load,Bool.true_and,Bool.true_and,Bool.true_and,Bool.true_and,Bool.true_and,Bool.true_and,za9]
   intro j hj
   obtain⟨c1,c2⟩:=h.ord j i hj hi
   rw[decide_eq_true c1,decide_eq_false c2];rfl
theorem Right.l {w:Wld} (h:Right w):zfm w:=by
 obtain⟨⟨f1,f2⟩,⟨f3,f4⟩,f5,f6⟩:=zbh h.f
 have hm:w.f.w*w.f.h≤40*40:=Int.mul_le_mul f2 f4 (by omega) (by omega)
 have a1:=h.nb;have a2:=h.nt;have a3:=h.sl;have a4:=h.ml
 unfold zfm;omega
theorem Right.places {w:Wld} (h:Right w):w.f.p.length≤1600:=by
 obtain⟨⟨f1,f2⟩,⟨f3,f4⟩,f5,f6⟩:=zbh h.f
 have hm:w.f.w*w.f.h≤40*40:=Int.mul_le_mul f2 f4 (by omega) (by omega)
 omega
theorem zhc {w:Wld} {t:Trp} (hk:t.kind=1∨t.kind=2) (hi:1≤t.id∧t.id≤w.next-1) (ho:0≤t.owner∧t.owner≤(w.bases.length:Int)-1) (hg:zb0 w.f t.c=true) (hl:1≤t.life∧t.life≤(zba t.kind).life) (hd:0≤t.load∧t.load≤5*(2-t.kind)):TrpOk w t:=by
 have h:=inF_iff.1 (ground_iff.1 hg).1
 exact⟨hk,hi,ho,hg,h.1,h.2,hl,hd⟩
theorem zhx {α : Type} [Inhabited α] {l:List α} {i:Nat} (v : α) (p:Nat) (hi:i<l.length):(l.set i v).getD p default=if p=i then v else l.getD p default:=by
 by_cases h:p=i
 ·subst h;rw[if_pos rfl,zad _ _ (by simpa using hi)];simp
 ·rw[if_neg h]
  simp only[List.getD_eq_getElem?_getD,List.getElem?_set,if_neg (Ne.symm h)]
theorem ztq {α : Type} [Inhabited α] (l:List α) (i:Nat) (hi:i<l.length):l.set i (l.getD i default)=l:=by
 refine List.ext_getElem (by simp) fun j h1 h2 => ?_
 rw[List.getElem_set]
 split
 ·rename_i h;subst h;rw[zad _ _ hi]
 ·rfl
theorem zpl {w:Wld} (h:Right w) (l:List Blw) (hb:∀id,0≤zfh w l id):Right (zec w l):=by
 have hsub:(zhs w l).length≤w.troops.length:=by
  have:=List.length_filter_le (fun t:Trp=>decide (0<t.life)) (w.troops.map (zdi w l))
  rw[List.length_map]at this;exact this
 have hp:(zhs w l).Pairwise fun a b=>a.id<b.id∧a.c≠b.c:=by
  refine List.Pairwise.filter _ ?_
  rw[List.pairwise_map,List.pairwise_iff_getElem]
  intro i j hi hj hij
  have:=h.ord i j hij hj
  rw[zad _ _ hi,zad _ _ hj]at this
  exact this
 refine⟨h.f,h.nb,Nat.le_trans hsub h.nt,h.sl,h.ml,h.nx,h.nw,h.base,h.mine,fun k hk => ?_,fun j k hjk hk => ?_⟩
 ·have hk':k<(zhs w l).length:=hk
  have hm:=za1 _ _ hk'
  obtain⟨h1,h2⟩:=List.mem_filter.1 hm
  obtain⟨t,ht,e⟩:=List.mem_map.1 h1
  obtain⟨q,hq,e2⟩:=mem_getD.1 ht
  have ok:=h.trp q hq
  rw[e2]at ok
  change TrpOk (zec w l) ((zhs w l).getD k default)
  rw[←e]at h2 ⊢
  rw[decide_eq_true_eq]at h2
  have hh:=hb t.id
  have hlf:=ok.life
  refine zhc ok.kind ok.id ok.owner ok.at_ ⟨by omega,?_⟩ ok.load
  change t.life-zfh w l t.id≤(zba t.kind).life
  omega
 ·have hj:j<(zhs w l).length:=Nat.lt_trans hjk hk
  have:=List.pairwise_iff_getElem.1 hp j k hj hk hjk
  change ((zhs w l).getD j default).id<((zhs w l).getD k default).id∧((zhs w l).getD j default).c≠((zhs w l).getD k default).c
  rw[zad (zhs w l) _ hj,zad (zhs w l) _ hk];exact this
end Go.Proofs.YtmjbgbmegbkmhaaGreat
namespace Go.Proofs.YtmjbgbmegbkmhaaGreat
set_option linter.all false
open Go.RowKit
set_option maxRecDepth 100000
set_option maxHeartbeats 2000000
def z2e (w:Wld) (ts:List Trp):Wld:={ w with troops:=ts }
abbrev yhx (w:Wld) (t:AV):List AV := [I .i64 w.f.w,I .i64 w.f.h,.c (.sl 1 (w.f.p.map zac)),.c (.sl 2 (w.bases.map za6)),.c (.sl 1 (w.stocks.map zac)),.c (.sl 1 (w.mines.map zac)),t,I .i64 w.next,I .i64 w.now]
theorem yc2 (w:Wld) (hb:w.f.p.length≤1600∧w.bases.length≤8∧w.stocks.length≤8∧w.mines.length≤1600∧w.troops.length≤100):Spec Tryz.prog 90 [zdf w] [] (.agg (yhx w (.own 0))) [.row 108 7 (w.troops.map zat)]:=by
 refine spB Tryz.func90 26 [.cell 2 28] Tryz.results90 ?_
 try refine xst ?_
 refine caM [] (zfs w.f.p (by omega)) ?_
 try refine xst ?_
 refine caM [] (z1u w.bases (by omega)) ?_
 try refine xst ?_
 refine caM [] (zfs w.stocks (by omega)) ?_
 try refine xst ?_
 (try(refine⟨by kernel_rfl,?_⟩))
 try refine xst ?_
 refine caM [] (zfs w.mines (by omega)) ?_
 try refine xst ?_
 refine caM [] (zox w.troops (by omega)) ?_
 try refine xst ?_
 (try(refine⟨by kernel_rfl,?_⟩))
 try refine xst ?_
 refine zb6 [63] rfl rfl (by decide) ⟨?_,trivial⟩ ⟨rfl,trivial⟩ (Wk.of ?_)
 ·simp(etaStruct := .none)only[push_cast,zab,seval]
 ·first|rfl|kernel_rfl
def zj7 (w:Wld) (l:List Gop):Int:=if zao w≠0 then zao w else if 200<l.length then 2 else 0
theorem z8f {w:Wld} (hw:Right w):w.f.p.length≤1600∧w.bases.length≤8∧w.stocks.length≤8∧w.mines.length≤1600∧w.troops.length≤100:=by
 have hfo:=zbh hw.f
 have hm2:w.f.w*w.f.h≤40*40:=Int.mul_le_mul hfo.1.2 hfo.2.1.2 (by omega) (by omega)
 have h1:=hw.nb
 have h2:=hw.sl
 have h3:=hw.ml
 have h4:=hw.nt
 omega
theorem z4b (w:Wld) (l:List Gop) (WR:Cel→List Int) (hWR:∀a,zap w.f [a] (WR a)) (hl:zfm w) (hll:l.length≤9223372036854775807):Spec Tryz.prog 48 [zdf w,.c (.sl 3 (l.map zeh))] [] (.tup [zdf (if zj7 w l=0 then z2e w (zgi w.f WR l w.troops).1 else default),.c (.sl 1 ((if zj7 w l=0 then (zgi w.f WR l w.troops).2 else []).map zac)),I .i64 (zj7 w l)]) []:=by
 refine spB Tryz.func48 26 [.cell 4 28,.tmp 5,.tmp 6] Tryz.results48 ?_
 try refine xst ?_
 refine caP (zd3 w hl) ?_
 try refine xst ?_
 refine cI (fun h1 => ?_) fun h1 => ?_
 ·have e:zj7 w l=zao w:=by unfold zj7;rw[if_pos h1]
  rw[e,if_neg h1,if_neg h1]
  try refine xst ?_
  exact xrz rfl
 ·have hw:=zdm h1
  try refine xst ?_
  refine cI (fun h2 => ?_) fun h2 => ?_
  ·have e:zj7 w l=2:=by unfold zj7;rw[if_neg (by simp[h1]),if_pos (by omega)]
   rw[e,if_neg (by decide),if_neg (by decide)]
   try refine xst ?_
   exact xrz rfl
  ·have e:zj7 w l=0:=by unfold zj7;rw[if_neg (by simp[h1]),if_neg (by omega)]
   rw[e,if_pos rfl,if_pos rfl]
   have hb:=z8f hw
   try refine xst ?_
   refine caM [] (yc2 w hb) ?_
   try refine xst ?_
   refine caM [2] (z87 w l WR hWR (by omega) (by omega) (by omega)) ?_
   try refine xst ?_
   refine zcj rfl (by repeat' (first|exact trivial|exact rfl|refine⟨?_,?_⟩)) (Wk.of ?_)
   first|rfl|kernel_rfl
end Go.Proofs.YtmjbgbmegbkmhaaGreat
namespace Go.Proofs.YtmjbgbmegbkmhaaGreat
set_option linter.all false
open Go.RowKit
set_option maxRecDepth 100000
theorem zjy {f:Fld} {a b:Cel} {R:List Int} {W H:Nat} (s:Srch f a b R W H) (hf:zbv f=0) (ha:inF f a=true) (hpa:zah f a≠1):∀(N:Nat) (c:Cel),inF f c=true→0≤R.getD (zal f c) default→∀x∈zxz R f a N c,zb0 f x=true
 | 0,c,_,_,x,hx=>by unfold zxz at hx;cases hx
 | N+1,c,hc,h0,x,hx=>by
  unfold zxz at hx
  by_cases hca:c=a
  ·rw[if_pos hca]at hx;cases hx
  ·rw[if_neg hca]at hx
   obtain⟨_,_,h3,_,h5,_⟩:=zzp s.w s.h s.w0 hf s.l s.r ha hc hca h0
   rcases List.mem_cons.1 hx with e|hx
   ·rw[e,ground_iff]
    refine⟨h3,?_⟩
    obtain⟨en,hnL⟩:=zbd s.w s.h s.w0 hf h3
    rcases s.r.why _ hnL h5 with ⟨w1,_⟩|⟨_,_,_,hr,_⟩
    ·rw[List.mem_singleton]at w1
     have epl:∀n,zah f n=f.p.getD (zal f n) default:=fun _=>rfl
     rw[epl,w1];exact hpa
    ·exact hr
   ·exact zjy s hf ha hpa N _ h3 h5 x hx
theorem zrg {f:Fld} {WR:Cel→List Int} (hWR:∀a,zap f [a] (WR a)) {a b x:Cel} (hx:x∈zxp f WR a b):zb0 f x=true:=by
 unfold zxp at hx
 by_cases he:zlk (WR a) f a b=0
 ·rw[if_pos he]at hx
  unfold zlk at he
  by_cases hf:zbv f=0
  ·rw[if_neg (by simpa using hf)]at he
   by_cases hi:inF f a=true∧inF f b=true
   ·rw[if_neg (by simpa using hi)]at he
    by_cases hp:zah f a=1∨zah f b=1
    ·rw[if_pos hp]at he;exact absurd he (by decide)
    ·rw[if_neg hp]at he
     by_cases hr:(WR a).getD (zal f b) default<0
     ·rw[if_pos hr]at he;exact absurd he (by decide)
     ·have hpa:zah f a≠1:=fun h=>hp (Or.inl h)
      have hpb:zah f b≠1:=fun h=>hp (Or.inr h)
      obtain⟨W,H,s⟩:=yem (b:=b) hf hi.1 hpa (hWR a)
      unfold ya3 at hx
      rw[List.mem_reverse]at hx
      rcases List.mem_cons.1 hx with e|hx
      ·rw[e];exact ground_iff.2 ⟨hi.2,hpb⟩
      ·exact zjy s hf hi.1 hpa _ b hi.2 (by omega) x hx
   ·rw[if_pos hi]at he;exact absurd he (by decide)
  ·rw[if_pos hf]at he;exact absurd he hf
 ·rw[if_neg he]at hx;cases hx
theorem zo3 {f:Fld} {WR:Cel→List Int} (hWR:∀a,zap f [a] (WR a)) {l:List Gop} {ts:List Trp} {t:Trp} {c:Cel} (h:zo4 f WR l ts t=some c):zb0 f c=true∧(ts.any fun o=>decide (o.c=c))=false:=by
 unfold zo4 at h
 split at h
 ·cases h
 ·rename_i g _
  split at h
  ·cases h
  ·rename_i hn
   cases h
   have h1:1<(zxp f WR t.c g.to).length:=by omega
   refine⟨zrg hWR (za1 _ _ h1),?_⟩
   cases e:ts.any fun o=>decide (o.c=(zxp f WR t.c g.to).getD 1 default)with
   | false=>rfl
   | true=>exact absurd (Or.inr e) hn
theorem zwh {w:Wld} (h:Right w) {i:Nat} (hi:i<w.troops.length) {c:Cel} (hg:zb0 w.f c=true) (hn:(w.troops.any fun o=>decide (o.c=c))=false):Right (z2e w (w.troops.set i (zrt (w.troops.getD i default) c))):=by
 have G:=fun p=>zhx (zrt (w.troops.getD i default) c) p hi
 have hno:∀k,k<w.troops.length→(w.troops.getD k default).c≠c:=fun k hk e=>by
  have:=List.any_eq_false.1 hn _ (za1 _ _ hk)
  rw[e]at this;simp at this
 refine⟨h.f,h.nb,by simpa[z2e]using h.nt,h.sl,h.ml,h.nx,h.nw,h.base,h.mine,fun k hk => ?_,fun j k hjk hk => ?_⟩
 ·have hk':k<w.troops.length:=by simpa[z2e]using hk
  have e:∀t,TrpOk w t→TrpOk (z2e w (w.troops.set i (zrt (w.troops.getD i default) c))) t:=fun t ht=>⟨ht.kind,ht.id,ht.owner,ht.at_,ht.x,ht.y,ht.life,ht.load⟩
  have G':=G k
  change TrpOk _ ((w.troops.set i (zrt (w.troops.getD i default) c)).getD k default)
  rw[G']
  split
  ·have ok:=h.trp i hi
   exact e _ (zhc ok.kind ok.id ok.owner hg ok.life ok.load)
  ·exact e _ (h.trp k hk')
 ·have hk':k<w.troops.length:=by simpa[z2e]using hk
  have hj':j<w.troops.length:=Nat.lt_trans hjk hk'
  have:=h.ord j k hjk hk'
  change ((w.troops.set i (zrt (w.troops.getD i default) c)).getD j default).id<((w.troops.set i (zrt (w.troops.getD i default) c)).getD k default).id∧((w.troops.set i (zrt (w.troops.getD i default) c)).getD j default).c≠((w.troops.set i (zrt (w.troops.getD i default) c)).getD k default).c
  rw[G j,G k]
  by_cases e1:j=i
  ·have e2:k≠i:=by omega
   rw[if_pos e1,if_neg e2]
   subst e1
   exact⟨this.1,fun e=>hno k hk' e.symm⟩
  ·rw[if_neg e1]
   by_cases e2:k=i
   ·rw[if_pos e2]
    subst e2
    exact⟨this.1,fun e=>hno j hj' e⟩
   ·rw[if_neg e2];exact this
theorem zi1 {w:Wld} (h:Right w) {WR:Cel→List Int} (hWR:∀a,zap w.f [a] (WR a)) (l:List Gop):∀k,k≤w.troops.length→Right (z2e w (zd7 w.f WR l w.troops k).1)
 | 0,_=>by rw[zkx];exact h
 | k+1,hk=>by
  have ih:=zi1 h hWR l k (by omega)
  have hlen:=(zil w.f WR l w.troops k).1
  rw[zgx]
  unfold zd6
  split
  ·exact ih
  ·rename_i c hs
   obtain⟨g1,g2⟩:=zo3 hWR hs
   exact zwh ih (i:=k) (by change k<(zd7 w.f WR l w.troops k).1.length;omega) g1 g2
theorem znc {w:Wld} (h:Right w) {WR:Cel→List Int} (hWR:∀a,zap w.f [a] (WR a)) (l:List Gop):Right (z2e w (zgi w.f WR l w.troops).1):=zi1 h hWR l _ (Nat.le_refl _)
structure HitInv (w : Wld) (m : List Blw) (harm : List Int) (done : List Bool) : Prop where
 l1:harm.length=w.troops.length
 l2:done.length=w.troops.length
 val:∀j,j<w.troops.length→harm.getD j default=zfh w m (w.troops.getD j default).id
 low:∀j,j<w.troops.length→0≤harm.getD j default∧harm.getD j default≤4*m.length
 did:∀j,j<w.troops.length→done.getD j default=m.any (zk6 w (w.troops.getD j default))
theorem HitInv.start (w:Wld):HitInv w [] (List.replicate w.troops.length 0) (List.replicate w.troops.length false):=by
 have g:∀j,j<w.troops.length→(List.replicate w.troops.length (0:Int)).getD j default=0:=fun j hj=>by rw[zad _ _ (by simpa using hj)];simp
 have g2:∀j,j<w.troops.length→(List.replicate w.troops.length false).getD j default=false:=fun j hj=>by rw[zad _ _ (by simpa using hj)];simp
 exact⟨by simp,by simp,fun j hj=>by rw[g j hj,zu1],fun j hj=>by rw[g j hj];simp,fun j hj=>by rw[g2 j hj];rfl⟩
theorem HitInv.skip {w:Wld} (hu:Ups w) {m:List Blw} {harm:List Int} {done:List Bool} (h:HitInv w m harm done) (b:Blw) (hs:zly w b=false∨∃i,i<w.troops.length∧(w.troops.getD i default).id=b.by_∧done.getD i default=true):HitInv w (m ++ [b]) harm done:=by
 have hs':zly w b=false∨∃i,i<w.troops.length∧(w.troops.getD i default).id=b.by_∧m.any (zk6 w (w.troops.getD i default))=true:=by
  rcases hs with hs|⟨i,hi,e,hd⟩
  ·exact .inl hs
  ·exact .inr ⟨i,hi,e,by rw[←h.did i hi];exact hd⟩
 refine⟨h.l1,h.l2,fun j hj=>by rw[z0t hu _ _ _ hs'];exact h.val j hj,fun j hj => ?_,fun j hj => ?_⟩
 ·have:=h.low j hj
  rw[List.length_append];simp only[List.length_cons,List.length_nil];omega
 ·rw[List.any_append,h.did j hj]
  simp only[List.any_cons,List.any_nil,Bool.or_false]
  cases hp:zk6 w (w.troops.getD j default) b with
  | false=>rw[Bool.or_false]
  | true =>
   rw[Bool.or_true]
   unfold zk6 at hp
   simp only[Bool.and_eq_true,decide_eq_true_eq]at hp
   rcases hs' with hs|⟨i,hi,e,hd⟩
   ·rw[hs]at hp;simp at hp
   ·by_cases hij:i=j
    ·subst hij;exact hd
    ·exact absurd (e.trans hp.1) (hu.ne hi hj hij)
theorem HitInv.go {w:Wld} (hu:Ups w) {m:List Blw} {harm:List Int} {done:List Bool} (h:HitInv w m harm done) {b:Blw} (hb:zly w b=true) {i j:Nat} (hi:i<w.troops.length) (hj:j<w.troops.length) (ei:(w.troops.getD i default).id=b.by_) (ej:(w.troops.getD j default).id=b.at_) (hd:done.getD i default=false) :
 HitInv w (m ++ [b]) (harm.set j (harm.getD j default+(zba (w.troops.getD i default).kind).load)) (done.set i true):=by
 have hn:m.any (zk6 w (w.troops.getD i default))=false:=by rw[←h.did i hi];exact hd
 have hk:=zk3 (w.troops.getD i default).kind
 refine⟨by rw[List.length_set];exact h.l1,by rw[List.length_set];exact h.l2,fun q hq => ?_,fun q hq => ?_,fun q hq => ?_⟩
 ·rw[yb2 _ _ (by rw[h.l1];exact hj),z0s hu _ _ _ hb hi ei hn]
  by_cases e:q=j
  ·subst e
   rw[if_pos rfl,if_pos ej.symm,h.val q hq]
  ·rw[if_neg e,if_neg (fun e2=>hu.ne hq hj e (e2.symm.trans ej.symm)),h.val q hq,Int.add_zero]
 ·rw[yb2 _ _ (by rw[h.l1];exact hj),List.length_append]
  have h1:=h.low q hq
  have h2:=h.low j hj
  simp only[List.length_cons,List.length_nil]
  split<;>omega
 ·rw[ygf _ _ (by rw[h.l2];exact hi),List.any_append]
  simp only[List.any_cons,List.any_nil,Bool.or_false]
  by_cases e:q=i
  ·subst e
   rw[if_pos rfl,show zk6 w (w.troops.getD q default) b=true by unfold zk6;rw[hb,ei];simp,Bool.or_true]
  ·rw[if_neg e,h.did q hq,show zk6 w (w.troops.getD q default) b=false by
    unfold zk6;rw[decide_eq_false (fun e2=>hu.ne hq hi e (e2.symm.trans ei.symm))];rfl,Bool.or_false]
section
variable {w : Wld} {b : Blw} {i j : Nat} {p q : Bool}
theorem z5s (h1:p=(zc4 w b.by_).isSome) (h2:(zc4 w b.by_).isSome=true→(w.troops.getD i default).id=b.by_∧(zc4 w b.by_).getD z6c=w.troops.getD i default)
 (h3:q=(zc4 w b.at_).isSome) (h4:(zc4 w b.at_).isSome=true→(w.troops.getD j default).id=b.at_∧(zc4 w b.at_).getD z6c=w.troops.getD j default) (hp:p=true) (hq:q=true) (hc:zi8 w (w.troops.getD i default) (w.troops.getD j default)=true) :
 zly w b=true∧(w.troops.getD i default).id=b.by_∧(w.troops.getD j default).id=b.at_:=by
 rw[hp]at h1;rw[hq]at h3
 have a:=h2 h1.symm
 have c:=h4 h3.symm
 refine⟨?_,a.1,c.1⟩
 unfold zly;rw[←h1,←h3,a.2,c.2,hc];rfl
theorem yas {done:List Bool} (hi:i<w.troops.length) (h1:p=(zc4 w b.by_).isSome) (h2:(zc4 w b.by_).isSome=true→(w.troops.getD i default).id=b.by_∧(zc4 w b.by_).getD z6c=w.troops.getD i default)
 (h3:q=(zc4 w b.at_).isSome) (h4:(zc4 w b.at_).isSome=true→(w.troops.getD j default).id=b.at_∧(zc4 w b.at_).getD z6c=w.troops.getD j default) (h:((p=false∨q=false)∨done.getD i default=true)∨zi8 w (w.troops.getD i default) (w.troops.getD j default)=false) :
 zly w b=false∨∃i,i<w.troops.length∧(w.troops.getD i default).id=b.by_∧done.getD i default=true:=by
 unfold zly
 rw[←h1,←h3]
 cases p with
 | false=>exact .inl rfl
 | true =>
  cases q with
  | false=>exact .inl rfl
  | true =>
   have a:=h2 h1.symm
   have c:=h4 h3.symm
   rw[a.2,c.2]
   rcases h with (h|h)|h
   ·simp at h
   ·exact .inr ⟨i,hi,a.1,h⟩
   ·exact .inl (by rw[h];rfl)
end
end Go.Proofs.YtmjbgbmegbkmhaaGreat
namespace Go.Proofs.YtmjbgbmegbkmhaaGreat
set_option linter.all false
open Go.RowKit
set_option maxRecDepth 100000
set_option maxHeartbeats 1000000
theorem yaq (w:Wld) (l:List Blw) (hl:zfm w) (hw:zao w=0) (hll:l.length≤200) (ht:0<w.troops.length):Spec Tryz.prog 88 [zdf w,.c (.sl 2 (l.map zek))] [] (.tup [.c (.sl 1 ((zg0 w l).map zac)),I .i64 (zbe w l)]) []:=by
 have e:zbe w l=0:=by unfold zbe;rw[if_neg (by simp[hw]),if_neg (by omega)]
 have hu:=ybo hw
 obtain⟨w1,w2,w3,w4,w5⟩:=zc6 hw
 refine spB Tryz.func88 120 [.tmp 4,.tmp 5] Tryz.results88 ?_
 try refine xst ?_
 refine caP (zd3 w hl) ?_
 try refine xst ?_
 refine cI (fun h1 => ?_) fun h1 => ?_
 ·exact absurd hw h1
 ·try refine xst ?_
  refine cI (fun h2 => ?_) fun h2 => ?_
  ·omega
  ·try refine xst ?_
   refine zay (fun x:Nat × List (List Int × Int)=>⟨[(32,I .i64 x.1),(31,I .i64 w.troops.length),(30,.c (.sl 7 (w.troops.map zat))),(7,.map 1),(2,.ptr 0 0 0),(1,.c (.sl 2 (l.map zek)))],[(0,.blk 28 (zop w)),(1,.mp false 1 x.2)],2⟩) (fun x:Nat × List (List Int × Int)=>x.1≤w.troops.length∧IdxM w x.1 x.2) (fun x:Nat × List (List Int × Int)=>w.troops.length-x.1) ((0,[])) (⟨Nat.zero_le _,fun i=>rfl,fun j h=>absurd h (Nat.not_lt_zero _)⟩) (To.mk [0,1] rfl rfl (by decide) ?_ ?_) ?_
   ·simp(etaStruct := .none)only[push_cast,zab,seval]
   ·simp(etaStruct := .none)only[push_cast,zab,seval]
   rintro⟨k,es⟩ ⟨hk,hn⟩
   simp only at hk hn
   try refine xst ?_
   refine cI (fun h3 => ?_) fun h3 => ?_
   ·have hlt:k<w.troops.length:=by omega
    try refine xz2 (gd hlt) zbf ?_
    refine⟨(k+1,zf4 [(w.troops.getD k default).id] (k:Int) es),⟨by simp only;omega,hn.step hu hlt⟩,by simp only;omega,To.mk [0,1] rfl rfl (by decide) ?_ ?_⟩
    ·(try(refine xz2 (gd hlt) zbf ?_;try exact xtI))
    ·(try(refine xz2 (gd hlt) zbf ?_;try exact xtI))
   ·obtain rfl:k=w.troops.length:=by omega
    have hget:=hn.get ht
    try refine xst ?_
    refine zay (fun x:Nat × List Int × List Bool=>⟨[(52,I .i64 x.1),(51,I .i64 l.length),(50,.c (.sl 2 (l.map zek))),(11,.own 3),(10,.own 2),(7,.map 1),(2,.ptr 0 0 0)],[(0,.blk 28 (zop w)),(1,.mp false 1 es),(2,.row 3 1 (x.2.1.map zac)),(3,.row 4 1 (x.2.2.map zet))],4⟩) (fun x:Nat × List Int × List Bool=>x.1≤l.length∧HitInv w (l.take x.1) x.2.1 x.2.2) (fun x:Nat × List Int × List Bool=>l.length-x.1) ((0,List.replicate w.troops.length 0,List.replicate w.troops.length false)) (⟨Nat.zero_le _,HitInv.start w⟩) (To.mk [0,1,2,3] rfl rfl (by decide) ?_ ?_) ?_
    ·simp(etaStruct := .none)only[push_cast,zab,seval,List.map_replicate,List.length_replicate,zac,zet]
    ·simp(etaStruct := .none)only[push_cast,zab,seval]
    rintro⟨k,harm,done⟩ ⟨hk,hinv⟩
    simp only at hk hinv
    have hl1:=hinv.l1
    have hl2:=hinv.l2
    try refine xst ?_
    refine cI (fun h4 => ?_) fun h4 => ?_
    ·have hlt:k<l.length:=by omega
     obtain⟨b,hb⟩:∃b,b=l.getD k default:=⟨_,rfl⟩
     obtain⟨i,hi,gi,mi1,mi2⟩:=hget b.by_
     obtain⟨j,hj,gj,mj1,mj2⟩:=hget b.at_
     have hid:i<done.length:=by omega
     have hjh:j<harm.length:=by omega
     have htk:l.take (k+1)=l.take k ++ [b]:=by rw[zaq _ _ hlt,hb]
     have hlow:=hinv.low j hj
     have hkh:=zk3 (w.troops.getD i default).kind
     rw[List.length_take]at hlow
     iterate 2(try simp(etaStruct := .none)only[push_cast,zab,seval,zaa _ _ _ hlt,←hb,zek,gi,gj,zaa _ _ _ hid,zaa _ _ _ hi,zaa _ _ _ hj,zaa _ _ _ hjh,zat,zet,zac];try refine xsu ?_)
     refine gcP (fun hcc=>z5h w (w.troops.getD i default) (w.troops.getD j default) hl hw (za1 _ _ hi) (za1 _ _ hj)) ?_
     iterate 2(try simp(etaStruct := .none)only[push_cast,zab,seval,zaa _ _ _ hlt,←hb,zek,gi,gj,zaa _ _ _ hid,zaa _ _ _ hi,zaa _ _ _ hj,zaa _ _ _ hjh,zat,zet,zac];try refine xsu ?_)
     (try(refine⟨by kernel_rfl,?_⟩))
     iterate 2(try simp(etaStruct := .none)only[push_cast,zab,seval,zaa _ _ _ hlt,←hb,zek,gi,gj,zaa _ _ _ hid,zaa _ _ _ hi,zaa _ _ _ hj,zaa _ _ _ hjh,zat,zet,zac];try refine xsu ?_)
     refine cI (fun h5 => ?_) fun h5 => ?_
     ·have hnx:=hinv.skip hu b (yas hi mi1 mi2 mj1 mj2 h5)
      rw[←htk]at hnx
      iterate 2(try simp(etaStruct := .none)only[push_cast,zab,seval,zaa _ _ _ hlt,←hb,zek,gi,gj,zaa _ _ _ hid,zaa _ _ _ hi,zaa _ _ _ hj,zaa _ _ _ hjh,zat,zet,zac];try refine xsu ?_)
      refine⟨(k+1,harm,done),⟨by simp only;omega,hnx⟩,by simp only;omega,To.mk [0,1,2,3] rfl rfl (by decide) ?_ ?_⟩
      ·(iterate 2((try simp(etaStruct := .none)only[push_cast,zab,seval,zaa _ _ _ hlt,←hb,zek,gi,gj,zaa _ _ _ hid,zaa _ _ _ hi,zaa _ _ _ hj,zaa _ _ _ hjh,zat,zet,zac]);(try(refine xsu ?_;try exact xtI))))
      ·(iterate 2((try simp(etaStruct := .none)only[push_cast,zab,seval,zaa _ _ _ hlt,←hb,zek,gi,gj,zaa _ _ _ hid,zaa _ _ _ hi,zaa _ _ _ hj,zaa _ _ _ hjh,zat,zet,zac]);(try(refine xsu ?_;try exact xtI))))
     ·obtain⟨y1,y2,y3⟩:=z5s mi1 mi2 mj1 mj2 h5.1.1.1 h5.1.1.2 h5.2
      have hnx:=hinv.go hu y1 hi hj y2 y3 h5.1.2
      rw[←htk]at hnx
      iterate 2(try simp(etaStruct := .none)only[push_cast,zab,seval,zaa _ _ _ hlt,←hb,zek,gi,gj,zaa _ _ _ hid,zaa _ _ _ hi,zaa _ _ _ hj,zaa _ _ _ hjh,zat,zet,zac];try refine xsu ?_)
      refine caP (zgp (w.troops.getD i default).kind) ?_
      iterate 2(try simp(etaStruct := .none)only[push_cast,zab,seval,zaa _ _ _ hlt,←hb,zek,gi,gj,zaa _ _ _ hid,zaa _ _ _ hi,zaa _ _ _ hj,zaa _ _ _ hjh,zat,zet,zac];try refine xsu ?_)
      (try(refine⟨by kernel_rfl,?_⟩))
      iterate 2(try simp(etaStruct := .none)only[push_cast,zab,seval,zaa _ _ _ hlt,←hb,zek,gi,gj,zaa _ _ _ hid,zaa _ _ _ hi,zaa _ _ _ hj,zaa _ _ _ hjh,zat,zet,zac];try refine xsu ?_)
      refine⟨(k+1,harm.set j (harm.getD j default+(zba (w.troops.getD i default).kind).load),done.set i true),⟨by simp only;omega,hnx⟩,by simp only;omega,To.mk [0,1,2,3] rfl rfl (by decide) ?_ ?_⟩
      ·(iterate 2((try simp(etaStruct := .none)only[push_cast,zab,seval,List.map_set,zac,zet]);(try(refine xsu ?_;try exact xtI))))
      ·(iterate 2((try simp(etaStruct := .none)only[push_cast,zab,seval,zaa _ _ _ hlt,←hb,zek,gi,gj,zaa _ _ _ hid,zaa _ _ _ hi,zaa _ _ _ hj,zaa _ _ _ hjh,zat,zet,zac]);(try(refine xsu ?_;try exact xtI))))
    ·obtain rfl:k=l.length:=by omega
     rw[List.take_length]at hinv
     have e2:zg0 w l=harm:=by unfold zg0;rw[if_pos e];exact(z4v hl1 hinv.val).symm
     try refine xst ?_
     (first|(refine zas rfl (Wk.of ?_);(try simp(etaStruct := .none)only[push_cast,zab,seval]);first|done|(simp[e,e2, *];done)|(simp_all[e,e2];done))|(refine zas rfl ?_;(try simp(etaStruct := .none)only[push_cast,zab,seval]);(try simp[e,e2, *]);(try exact wkc)))
theorem yar (w:Wld) (l:List Blw) (hl:zfm w) (hw:zao w=0) (hll:l.length≤200) (ht:w.troops = []):Spec Tryz.prog 88 [zdf w,.c (.sl 2 (l.map zek))] [] (.tup [.c (.sl 1 ((zg0 w l).map zac)),I .i64 (zbe w l)]) []:=by
 have e:zbe w l=0:=by unfold zbe;rw[if_neg (by simp[hw]),if_neg (by omega)]
 have e2:zg0 w l = []:=by unfold zg0 zn3;rw[if_pos e,ht];rfl
 obtain⟨wf,wb,ws,wm,wt,wn,wo⟩:=w
 simp only at ht
 subst ht
 obtain⟨w,hwd⟩:∃w:Wld,w=⟨wf,wb,ws,wm,[],wn,wo⟩:=⟨_,rfl⟩
 refine spB Tryz.func88 120 [.tmp 4,.tmp 5] Tryz.results88 ?_
 iterate 2(try simp(etaStruct := .none)only[push_cast,zab,seval,List.getD_nil];try refine xsu ?_)
 refine caP (zd3 _ hl) ?_
 iterate 2(try simp(etaStruct := .none)only[push_cast,zab,seval,List.getD_nil];try refine xsu ?_)
 refine cI (fun h1 => ?_) fun h1 => ?_
 ·exact absurd hw h1
 ·iterate 2(try simp(etaStruct := .none)only[push_cast,zab,seval,List.getD_nil];try refine xsu ?_)
  refine cI (fun h2 => ?_) fun h2 => ?_
  ·omega
  ·iterate 2(try simp(etaStruct := .none)only[push_cast,zab,seval,List.getD_nil];try refine xsu ?_)
   refine zay (fun _u:Unit=>⟨[(32,I .i64 0),(31,I .i64 0),(30,.c (.sl 7 [])),(7,.map 1),(2,.ptr 0 0 0),(1,.c (.sl 2 (l.map zek)))],[(0,.blk 28 (zop ⟨wf,wb,ws,wm,[],wn,wo⟩)),(1,.mp false 1 [])],2⟩) (fun _u:Unit=>Tr) (fun _u:Unit=>0) (()) (trI) (To.mk [0,1] rfl rfl (by decide) ?_ ?_) ?_
   ·simp(etaStruct := .none)only[push_cast,zab,seval]
   ·simp(etaStruct := .none)only[push_cast,zab,seval]
   rintro _ _
   iterate 2(try simp(etaStruct := .none)only[push_cast,zab,seval,List.getD_nil];try refine xsu ?_)
   refine cI (fun h3 => ?_) fun h3 => ?_
   ·simp at h3
   ·iterate 2(try simp(etaStruct := .none)only[push_cast,zab,seval,List.getD_nil];try refine xsu ?_)
    refine zay (fun k:Nat=>⟨[(52,I .i64 k),(51,I .i64 l.length),(50,.c (.sl 2 (l.map zek))),(11,.own 3),(10,.own 2),(7,.map 1),(2,.ptr 0 0 0)],[(0,.blk 28 (zop ⟨wf,wb,ws,wm,[],wn,wo⟩)),(1,.mp false 1 []),(2,.row 3 1 []),(3,.row 4 1 [])],4⟩) (fun k:Nat=>k≤l.length) (fun k:Nat=>l.length-k) (0) (Nat.zero_le _) (To.mk [0,1,2,3] rfl rfl (by decide) ?_ ?_) ?_
    ·simp(etaStruct := .none)only[push_cast,zab,seval]
    ·simp(etaStruct := .none)only[push_cast,zab,seval]
    rintro k hk
    iterate 2(try simp(etaStruct := .none)only[push_cast,zab,seval,List.getD_nil];try refine xsu ?_)
    refine cI (fun h4 => ?_) fun h4 => ?_
    ·have hlt:k<l.length:=by omega
     iterate 2(try simp(etaStruct := .none)only[push_cast,zab,seval,List.getD_nil,zaa _ _ _ hlt,zek];try refine xsu ?_)
     repeat(with_reducible refine And.intro ?_ ?_;· (simp[znn];done))
     refine z09 ?_ ?_
     ·simp[znn]
     iterate 2(try simp(etaStruct := .none)only[push_cast,zab,seval,List.getD_nil,zaa _ _ _ hlt,zek];try refine xsu ?_)
     (try(refine⟨by kernel_rfl,?_⟩))
     iterate 2(try simp(etaStruct := .none)only[push_cast,zab,seval,List.getD_nil,zaa _ _ _ hlt,zek];try refine xsu ?_)
     refine cI (fun h5 => ?_) fun h5 => ?_
     ·iterate 2(try simp(etaStruct := .none)only[push_cast,zab,seval,List.getD_nil,zaa _ _ _ hlt,zek];try refine xsu ?_)
      refine⟨k+1,by omega,by omega,To.mk [0,1,2,3] rfl rfl (by decide) ?_ ?_⟩
      ·(iterate 2((try simp(etaStruct := .none)only[push_cast,zab,seval,List.getD_nil,zaa _ _ _ hlt,zek]);(try(refine xsu ?_;try exact xtI))))
      ·(iterate 2((try simp(etaStruct := .none)only[push_cast,zab,seval,List.getD_nil,zaa _ _ _ hlt,zek]);(try(refine xsu ?_;try exact xtI))))
     ·simp[znn]at h5
    ·iterate 2(try simp(etaStruct := .none)only[push_cast,zab,seval,List.getD_nil];try refine xsu ?_)
     (first|(refine zas rfl (Wk.of ?_);(try simp(etaStruct := .none)only[push_cast,zab,seval]);first|done|(simp[e,e2, *];done)|(simp_all[e,e2];done))|(refine zas rfl ?_;(try simp(etaStruct := .none)only[push_cast,zab,seval]);(try simp[e,e2, *]);(try exact wkc)))
theorem yg5 (w:Wld) (l:List Blw) (id:Int) (t:Trp):0≤zuz w l id t∧zuz w l id t≤4:=by
 have:=zk3 t.kind
 unfold zuz
 split
 ·split<;>omega
 ·omega
theorem ybw (w:Wld) (l:List Blw) (id:Int):∀ts:List Trp,0≤z2d (ts.map (zuz w l id))∧z2d (ts.map (zuz w l id))≤4*ts.length
 | []=>by simp[z2d]
 | t::r=>by
  have h1:=ybw w l id r
  have h2:=yg5 w l id t
  simp only[z2d,List.map_cons,List.sum_cons,List.length_cons]at *
  omega
theorem zu0 (w:Wld) (l:List Blw) (hl:zfm w) (hll:l.length≤9223372036854775807):Spec Tryz.prog 88 [zdf w,.c (.sl 2 (l.map zek))] [] (.tup [.c (.sl 1 ((zg0 w l).map zac)),I .i64 (zbe w l)]) []:=by
 by_cases h:zbe w l=0
 ·have h1:zao w=0:=by unfold zbe at h;split at h;rename_i h1;exact absurd h h1;rename_i h1;simpa using h1
  have h2:l.length≤200:=by unfold zbe at h;rw[if_neg (by simp[h1])]at h;split at h;simp at h;omega
  rcases Nat.eq_zero_or_pos w.troops.length with h3|h3
  ·exact yar w l hl h1 h2 (List.eq_nil_of_length_eq_zero h3)
  ·exact yaq w l hl h1 h2 h3
 ·exact yap w l hl hll h
theorem ydk (w:Wld) (hw:zao w=0):Spec Tryz.prog 89 [zdf w] [] (zdf w) []:=by
 obtain⟨w1,w2,w3,w4,w5⟩:=zc6 hw
 obtain⟨v1,v2,v3,v4⟩:=zjx w4
 obtain⟨⟨f1,f2⟩,⟨f3,f4⟩,f5,f6⟩:=zbh w1
 have hm:w.f.w*w.f.h≤40*40:=Int.mul_le_mul f2 f4 (by omega) (by omega)
 refine spB Tryz.func89 26 [.cell 2 28] Tryz.results89 ?_
 try refine xst ?_
 refine caP (ze5 w.f.p (by omega)) ?_
 try refine xst ?_
 refine caP (zoi w.bases (by omega)) ?_
 try refine xst ?_
 refine caP (ze5 w.stocks (by omega)) ?_
 try refine xst ?_
 (try(refine⟨by kernel_rfl,?_⟩))
 try refine xst ?_
 refine caP (ze5 w.mines (by omega)) ?_
 try refine xst ?_
 refine caP (ztd w.troops (by omega)) ?_
 try refine xst ?_
 (try(refine⟨by kernel_rfl,?_⟩))
 try refine xst ?_
 exact xrz rfl
def ybk:Wld:=⟨⟨0,0,[]⟩,[],[],[],[],0,0⟩
def zqb (w:Wld) (l:List Blw) (k:Nat):List Trp:=((w.troops.take k).map (zdi w l)).filter fun t=>decide (0<t.life)
def zn4 (w:Wld) (l:List Blw) (k:Nat):List Int:=(((w.troops.take k).map (zdi w l)).filter fun t => !decide (0<t.life)).map (·.id)
theorem zw3 (w:Wld) (l:List Blw) {k:Nat} (h:k<w.troops.length):zqb w l (k+1)=zqb w l k++(if 0<(zdi w l (w.troops.getD k default)).life then [zdi w l (w.troops.getD k default)]else []):=by
 unfold zqb
 rw[zaq _ _ h,List.map_append,List.filter_append,List.map_cons,List.map_nil,List.filter_cons,List.filter_nil]
 simp only[decide_eq_true_eq]
theorem zw8 (w:Wld) (l:List Blw) {k:Nat} (h:k<w.troops.length):zn4 w l (k+1)=zn4 w l k++(if 0<(zdi w l (w.troops.getD k default)).life then []else [(w.troops.getD k default).id]):=by
 unfold zn4
 rw[zaq _ _ h,List.map_append,List.filter_append,List.map_cons,List.map_nil,List.filter_cons,List.filter_nil,List.map_append]
 by_cases h2:0<(zdi w l (w.troops.getD k default)).life
 ·rw[if_pos h2,decide_eq_true h2];simp
 ·rw[if_neg h2,decide_eq_false h2];simp[zdi]
theorem zz9 (w:Wld) (l:List Blw) (k:Nat):(zqb w l k).length≤k:=by
 have h1:=List.length_filter_le (fun t:Trp=>decide (0<t.life)) ((w.troops.take k).map (zdi w l))
 rw[List.length_map,List.length_take]at h1
 exact Nat.le_trans h1 (Nat.min_le_left _ _)
theorem z0y (w:Wld) (l:List Blw) (k:Nat):(zn4 w l k).length≤k:=by
 unfold zn4
 rw[List.length_map]
 have h1:=List.length_filter_le (fun t:Trp => !decide (0<t.life)) ((w.troops.take k).map (zdi w l))
 rw[List.length_map,List.length_take]at h1
 exact Nat.le_trans h1 (Nat.min_le_left _ _)
theorem z0a (w:Wld) (l:List Blw):zqb w l w.troops.length=zhs w l:=by unfold zqb;rw[List.take_length];rfl
theorem z0z (w:Wld) (l:List Blw):zn4 w l w.troops.length=z4w w l:=by unfold zn4;rw[List.take_length];rfl
theorem z0u (w:Wld) (l:List Blw) (id:Int):0≤zfh w l id∧zfh w l id≤4*w.troops.length:=ybw w l id w.troops
def zed (w:Wld) (l:List Blw):Wld:=if zbe w l=0 then zec w l else ybk
def zql (w:Wld) (l:List Blw):List Int:=if zbe w l=0 then z4w w l else []
theorem yda {w:Wld} (hw:zao w=0) {k:Nat} (h:k<w.troops.length):1≤(w.troops.getD k default).life∧(w.troops.getD k default).life≤20:=by
 have h1:=(zew hw h).1
 have:=h1.life
 have k1:(zba 1).life=10:=rfl
 have k2:(zba 2).life=20:=rfl
 rcases h1.kind with e|e
 ·rw[e,k1]at this;omega
 ·rw[e,k2]at this;omega
theorem z0m (w:Wld) (l:List Blw) (hl:zfm w) (hll:l.length≤9223372036854775807) (h:zbe w l≠0):Spec Tryz.prog 47 [zdf w,.c (.sl 2 (l.map zek))] [] (.tup [zdf (zed w l),.c (.sl 1 ((zql w l).map zac)),I .i64 (zbe w l)]) []:=by
 have e1:zed w l=ybk:=by unfold zed;rw[if_neg h]
 have e2:zql w l = []:=by unfold zql;rw[if_neg h]
 refine spB Tryz.func47 62 [.cell 4 28,.tmp 5,.tmp 6] Tryz.results47 ?_
 try refine xst ?_
 refine caP (zu0 w l hl hll) ?_
 try refine xst ?_
 refine cI (fun h1 => ?_) fun h1 => ?_
 ·try refine xst ?_
  (first|(refine zas rfl (Wk.of ?_);(try simp(etaStruct := .none)only[push_cast,zab,seval]);first|done|(simp[e1,e2,ybk, *];done)|(simp_all[e1,e2,ybk];done))|(refine zas rfl ?_;(try simp(etaStruct := .none)only[push_cast,zab,seval]);(try simp[e1,e2,ybk, *]);(try exact wkc)))
 ·exact absurd h1 h
theorem zqi (w:Wld) (l:List Blw) (hl:zfm w) (hll:l.length≤9223372036854775807) (h:zbe w l=0):Spec Tryz.prog 47 [zdf w,.c (.sl 2 (l.map zek))] [] (.tup [zdf (zed w l),.c (.sl 1 ((zql w l).map zac)),I .i64 (zbe w l)]) []:=by
 have hw:zao w=0:=by unfold zbe at h;split at h;rename_i h1;exact absurd h h1;rename_i h1;simpa using h1
 have w3:=(zc6 hw).2.2.1
 have hr:zg0 w l=zn3 w l:=by unfold zg0;rw[if_pos h]
 have hrl:(zn3 w l).length=w.troops.length:=by unfold zn3;rw[List.length_map]
 refine spB Tryz.func47 62 [.cell 4 28,.tmp 5,.tmp 6] Tryz.results47 ?_
 try refine xst ?_
 refine caP (zu0 w l hl hll) ?_
 try refine xst ?_
 refine cI (fun h1 => ?_) fun h1 => ?_
 ·exact absurd h h1
 ·try refine xst ?_
  refine caP (ydk w hw) ?_
  try refine xst ?_
  refine zay (fun k:Nat=>⟨[(32,I .i64 k),(31,I .i64 w.troops.length),(30,.c (.sl 7 (w.troops.map zat))),(10,.own 2),(9,.own 3),(7,.c (.sl 1 ((zg0 w l).map zac))),(4,.ptr 1 0 0),(2,.ptr 0 0 0)],[(0,.blk 28 (zop w)),(1,.blk 28 [I .i64 0,I .i64 0,.c (.v (.slice none 0 0)),.c (.v (.slice none 0 0)),.c (.v (.slice none 0 0)),.c (.v (.slice none 0 0)),.c (.v (.slice none 0 0)),I .i64 0,I .i64 0]),(2,.row 108 7 ((zqb w l k).map zat)),(3,.row 3 1 ((zn4 w l k).map zac))],4⟩) (fun k:Nat=>k≤w.troops.length) (fun k:Nat=>w.troops.length-k) (0) (Nat.zero_le _) ((To.nil 9 3 1 rfl).trans (To.mk [0,1,2,3] rfl rfl (by decide) ?_ ?_)) ?_
  ·simp(etaStruct := .none)only[push_cast,zab,seval,zqb,zn4,List.take_zero,List.map_nil,List.filter_nil]
  ·simp(etaStruct := .none)only[push_cast,zab,seval]
  rintro k hk
  try refine xst ?_
  refine cI (fun h2 => ?_) fun h2 => ?_
  ·have hlt:k<w.troops.length:=by omega
   have hrk:k<(zg0 w l).length:=by rw[hr,hrl];exact hlt
   have hrv:(zg0 w l).getD k default=zfh w l (w.troops.getD k default).id:=by
    rw[hr,zad _ _ (by rw[hrl];exact hlt)]
    simp only[zn3,List.getElem_map];rw[zad _ _ hlt]
   have hb:=z0u w l (w.troops.getD k default).id
   have hlb:=yda hw hlt
   have st1:=zw3 w l hlt
   have st2:=zw8 w l hlt
   have ll1:=zz9 w l k
   have ll2:=z0y w l k
   have hwl:(zdi w l (w.troops.getD k default)).life=(w.troops.getD k default).life-zfh w l (w.troops.getD k default).id:=rfl
   try refine xz5 (gd hlt) zbf (gd hrk) hrv za4 ?_
   (try(refine⟨by kernel_rfl,?_⟩))
   try refine xz5 (gd hlt) zbf (gd hrk) hrv za4 ?_
   refine cI (fun h3 => ?_) fun h3 => ?_
   ·rw[if_pos (by rw[hwl];exact h3)]at st1 st2
    rw[List.append_nil]at st2
    try refine xz5 (gd hlt) zbf (gd hrk) hrv za4 ?_
    refine⟨k+1,by omega,by omega,To.mk [0,1,42,3] rfl rfl (by decide) ?_ ?_⟩
    ·(iterate 2((try simp(etaStruct := .none)only[push_cast,zab,seval,st1,st2,List.map_append,zat,zdi]);(try(refine xsu ?_;try exact xtI))))
    ·(try(refine xz5 (gd hlt) zbf (gd hrk) hrv za4 ?_;try exact xtI))
   ·rw[if_neg (by rw[hwl];omega)]at st1 st2
    rw[List.append_nil]at st1
    try refine xz5 (gd hlt) zbf (gd hrk) hrv za4 ?_
    refine⟨k+1,by omega,by omega,To.mk [0,1,2,42] rfl rfl (by decide) ?_ ?_⟩
    ·(iterate 2((try simp(etaStruct := .none)only[push_cast,zab,seval,st1,st2,List.map_append,zac]);(try(refine xsu ?_;try exact xtI))))
    ·(try(refine xz5 (gd hlt) zbf (gd hrk) hrv za4 ?_;try exact xtI))
  ·obtain rfl:k=w.troops.length:=by omega
   have e1:zed w l=zec w l:=by unfold zed;rw[if_pos h]
   have e2:zql w l=z4w w l:=by unfold zql;rw[if_pos h]
   rw[z0a,z0z,e1,e2]
   try refine xst ?_
   (first|(refine zas rfl (Wk.of ?_);(try simp(etaStruct := .none)only[push_cast,zab,seval]);first|done|(simp[zec,h, *];done)|(simp_all[zec,h];done))|(refine zas rfl ?_;(try simp(etaStruct := .none)only[push_cast,zab,seval]);(try simp[zec,h, *]);(try exact wkc)))
end Go.Proofs.YtmjbgbmegbkmhaaGreat
namespace Go.Proofs.YtmjbgbmegbkmhaaGreat
set_option linter.all false
open Go.RowKit
set_option maxRecDepth 100000
def zqg (id:Int) (t:Trp):Bool:=decide (t.id=id)
def ybd (a b:Cel):Bool:=zaj b.x (a.x-1) (a.x+1)&&zaj b.y (a.y-1) (a.y+1)
def zbp (t:Trp) (n:Int):Trp:={ t with load:=n }
def zkt (w:Wld) (i m:Nat):Wld:={ w with mines:=w.mines.set m (w.mines.getD m default-1),troops:=w.troops.set i (zbp (w.troops.getD i default) ((w.troops.getD i default).load+1)) }
def zeq (w:Wld) (d:Ded) (i:Nat):Bool:=decide ((w.troops.getD i default).kind=1)&&decide ((w.troops.getD i default).load<5)&&ybd (w.troops.getD i default).c d.c&&inF w.f d.c&&decide (0<w.mines.getD (zal w.f d.c) default)
def zgf (w:Wld) (i:Nat):Int:=min (w.troops.getD i default).load (1000000-w.stocks.getD (w.troops.getD i default).owner.toNat default)
def zea (w:Wld) (i:Nat):Wld:={ w with stocks:=w.stocks.set (w.troops.getD i default).owner.toNat (w.stocks.getD (w.troops.getD i default).owner.toNat default+zgf w i),troops:=w.troops.set i (zbp (w.troops.getD i default) ((w.troops.getD i default).load-zgf w i)) }
def zmp (w:Wld) (i:Nat):Bool:=ybd (w.bases.getD (w.troops.getD i default).owner.toNat default) (w.troops.getD i default).c
def zdd (b:Cel):List Cel := [b,⟨b.x-1,b.y-1⟩,⟨b.x,b.y-1⟩,⟨b.x+1,b.y-1⟩,⟨b.x-1,b.y⟩,b,⟨b.x+1,b.y⟩,⟨b.x-1,b.y+1⟩,⟨b.x,b.y+1⟩,⟨b.x+1,b.y+1⟩]
def zqp (w:Wld) (c:Cel):Bool:=zb0 w.f c && !(w.troops.any fun t=>decide (t.c=c))
def zsq (w:Wld) (b:Cel):Option Cel:=(zdd b).find? (zqp w)
def zk7 (w:Wld) (d:Ded):Bool:=decide (0≤d.who)&&decide (d.who<w.bases.length)&&(decide (d.what=1)||decide (d.what=2))&&decide ((zba d.what).price≤w.stocks.getD d.who.toNat default)&&decide (w.troops.length<100)&&decide (w.next<1000000)
def zdj (w:Wld) (d:Ded) (c:Cel):Wld:={ w with troops:=w.troops ++ [⟨w.next,d.who,d.what,c,(zba d.what).life,0⟩],next:=w.next+1,stocks:=w.stocks.set d.who.toNat (w.stocks.getD d.who.toNat default-(zba d.what).price) }
def zfi (w:Wld) (d:Ded):Wld × Bool :=
 if d.kind=1 then match w.troops.findIdx? (zqg d.who)with
  | some i=>if zeq w d i then (zkt w i (zal w.f d.c),true)else (w,false)
  | none=>(w,false)
 else if d.kind=2 then match w.troops.findIdx? (zqg d.who)with
  | some i=>if zmp w i then (zea w i,decide (0<zgf w i))else (w,false)
  | none=>(w,false)
 else if d.kind=3 then (if zk7 w d then match zsq w (w.bases.getD d.who.toNat default)with
  | some c=>(zdj w d c,true)
  | none=>(w,false)
  else (w,false))
 else (w,false)
theorem zrf {w:Wld} {t:Trp} {n:Int} (h:TrpOk w t) (hn:0≤n∧n≤5*(2-t.kind)):TrpOk w (zbp t n):=zhc h.kind h.id h.owner h.at_ h.life hn
theorem zt9 {w:Wld} (h:Right w) {i:Nat} (hi:i<w.troops.length):∃o:Nat,(w.troops.getD i default).owner=(o:Int)∧o<w.bases.length∧o<w.stocks.length:=by
 have:=(h.trp i hi).owner
 have hs:=h.sl
 refine⟨(w.troops.getD i default).owner.toNat,by omega,by omega,by omega⟩
theorem z6v {w:Wld} (h:Right w) {c:Cel} (hc:inF w.f c=true):zal w.f c<w.mines.length∧c.y*w.f.w+c.x=((zal w.f c:Nat):Int)∧0≤c.y*w.f.w∧c.y*w.f.w≤1600:=by
 obtain⟨i1,i2,i3,i4,i5⟩:=zbm h.f hc
 have:=h.ml
 unfold zal;omega
theorem zl6 {w:Wld} (h:Right w) {i:Nat} (hi:i<w.troops.length) {n:Int} (hn:0≤n∧n≤5*(2-(w.troops.getD i default).kind)) {st mi:List Int} (hs:st.length=w.stocks.length) (hm:mi.length=w.mines.length) (hs2:∀j,j<st.length→0≤st.getD j default∧st.getD j default≤1000000) (hm2:∀j,j<mi.length→(0≤mi.getD j default∧mi.getD j default≤1000000)∧(mi.getD j default=0∨w.f.p.getD j default=3)) :
 Right { w with stocks:=st,mines:=mi,troops:=w.troops.set i (zbp (w.troops.getD i default) n) }:=by
 have G:=fun p=>zhx (zbp (w.troops.getD i default) n) p hi
 refine⟨h.f,h.nb,by simpa using h.nt,by rw[hs];exact h.sl,by rw[hm];exact h.ml,h.nx,h.nw,fun j hj => ?_,hm2,fun k hk => ?_,fun j k hjk hk => ?_⟩
 ·obtain⟨a1,_,a3⟩:=h.base j hj
  exact⟨a1,hs2 j (by rw[hs,h.sl];exact hj),a3⟩
 ·have hk':k<w.troops.length:=by simpa using hk
  have e:∀t,TrpOk w t→TrpOk { w with stocks:=st,mines:=mi,troops:=w.troops.set i (zbp (w.troops.getD i default) n) } t:=fun t ht=>⟨ht.kind,ht.id,ht.owner,ht.at_,ht.x,ht.y,ht.life,ht.load⟩
  simp only[G]
  split
  ·exact e _ (zrf (h.trp i hi) hn)
  ·exact e _ (h.trp k hk')
 ·have hk':k<w.troops.length:=by simpa using hk
  have:=h.ord j k hjk hk'
  simp only[G]
  have f1:∀m,(if m=i then zbp (w.troops.getD i default) n else w.troops.getD m default).id=(w.troops.getD m default).id∧(if m=i then zbp (w.troops.getD i default) n else w.troops.getD m default).c=(w.troops.getD m default).c:=fun m=>by
   split
   ·rename_i e;subst e;exact⟨rfl,rfl⟩
   ·exact⟨rfl,rfl⟩
  rw[(f1 j).1,(f1 k).1,(f1 j).2,(f1 k).2];exact this
theorem zwi {w:Wld} (h:Right w) {i:Nat} (hi:i<w.troops.length) {d:Ded} (ho:zeq w d i=true):Right (zkt w i (zal w.f d.c)):=by
 unfold zeq at ho
 simp only[Bool.and_eq_true,decide_eq_true_eq]at ho
 obtain⟨⟨⟨⟨o1,o2⟩,_⟩,o4⟩,o5⟩:=ho
 obtain⟨m1,_⟩:=z6v h o4
 have hl:=(h.trp i hi).load
 have G:=fun p=>zhx (w.mines.getD (zal w.f d.c) default-1) p m1
 refine zl6 h hi (by omega) rfl (by simp) (fun j hj=>(h.base j (by rw[←h.sl];exact hj)).2.1) (fun j hj => ?_)
 have hj':j<w.mines.length:=by simpa using hj
 rw[G]
 split
 ·rename_i e;subst e
  obtain⟨a1,a2⟩:=h.mine _ hj'
  exact⟨by omega,by rcases a2 with a2|a2;omega;exact .inr a2⟩
 ·exact h.mine j hj'
theorem zsw {w:Wld} (h:Right w) {i:Nat} (hi:i<w.troops.length):0≤zgf w i∧zgf w i≤(w.troops.getD i default).load∧w.stocks.getD (w.troops.getD i default).owner.toNat default+zgf w i≤1000000∧0≤w.stocks.getD (w.troops.getD i default).owner.toNat default:=by
 obtain⟨o,e,ho,hs⟩:=zt9 h hi
 have hl:=(h.trp i hi).load
 have hb:=(h.base o ho).2.1
 have e2:(w.troops.getD i default).owner.toNat=o:=by omega
 unfold zgf
 rw[e2];omega
theorem zwk {w:Wld} (h:Right w) {i:Nat} (hi:i<w.troops.length):Right (zea w i):=by
 obtain⟨o,e,ho,hs⟩:=zt9 h hi
 have e2:(w.troops.getD i default).owner.toNat=o:=by omega
 have hl:=(h.trp i hi).load
 have hn:=zsw h hi
 unfold zea
 rw[e2]at hn ⊢
 have G:=fun p=>zhx (w.stocks.getD o default+zgf w i) p hs
 refine zl6 h hi (by omega) (by simp) rfl (fun j hj => ?_) (fun j hj=>h.mine j hj)
 rw[G]
 split
 ·omega
 ·exact(h.base j (by rw[←h.sl];simpa using hj)).2.1
theorem hireOk_iff {w:Wld} {d:Ded} : zk7 w d=true↔((((0≤d.who∧d.who<w.bases.length)∧(d.what=1∨d.what=2))∧(zba d.what).price≤w.stocks.getD d.who.toNat default)∧w.troops.length<100)∧w.next<1000000:=by
 unfold zk7
 simp only[Bool.and_eq_true,Bool.or_eq_true,decide_eq_true_eq]
theorem zyj {α : Type} [Inhabited α] (l:List α) (x : α) (k:Nat):(l ++ [x]).getD k default=if k<l.length then l.getD k default else if k=l.length then x else default:=by
 by_cases h:k<l.length
 ·rw[if_pos h,zk8 _ _ _ h]
 ·rw[if_neg h]
  by_cases h2:k=l.length
  ·subst h2;rw[if_pos rfl,zad _ _ (by simp)];simp
  ·rw[if_neg h2];simp only[List.getD_eq_getElem?_getD];rw[List.getElem?_eq_none (by simp;omega)];rfl
theorem zwj {w:Wld} (h:Right w) {d:Ded} (ho:zk7 w d=true) {c:Cel} (hc:zqp w c=true):Right (zdj w d c):=by
 obtain⟨⟨⟨⟨⟨o1,o2⟩,o3⟩,o4⟩,o5⟩,o6⟩:=hireOk_iff.1 ho
 unfold zqp at hc
 simp only[Bool.and_eq_true,Bool.not_eq_true',List.any_eq_false,decide_eq_true_eq]at hc
 obtain⟨c1,c2⟩:=hc
 have hs:d.who.toNat<w.stocks.length:=by rw[h.sl];omega
 have G:=fun p=>zhx (w.stocks.getD d.who.toNat default-(zba d.what).price) p hs
 have hp:0≤(zba d.what).price:=by rcases o3 with e|e<;>rw[e]<;>decide
 have hx:=h.nx
 have T:=fun k=>zyj w.troops (⟨w.next,d.who,d.what,c,(zba d.what).life,0⟩:Trp) k
 refine⟨h.f,h.nb,by simp only[zdj,List.length_append,List.length_cons,List.length_nil];omega,by simp only[zdj,List.length_set];exact h.sl,h.ml,by simp only[zdj];omega,h.nw,fun j hj => ?_,h.mine,fun k hk => ?_,fun j k hjk hk => ?_⟩
 ·obtain⟨a1,a2,a3⟩:=h.base j hj
  refine⟨a1,?_,a3⟩
  simp only[zdj,G]
  split
  ·rename_i e;subst e;omega
  ·exact a2
 ·simp only[zdj,List.length_append,List.length_cons,List.length_nil]at hk
  simp only[zdj,T]
  split
  ·rename_i hk2
   have ok:=h.trp k hk2
   exact zhc ok.kind ⟨ok.id.1,by have:=ok.id.2;simp only;omega⟩ ok.owner ok.at_ ok.life ok.load
  ·rw[if_pos (by omega)]
   refine zhc o3 ⟨hx.1,by simp only;omega⟩ ⟨o1,by simp only;omega⟩ c1 ⟨?_,Int.le_refl _⟩ ⟨Int.le_refl _,?_⟩
   ·rcases o3 with e|e<;>simp only<;>rw[e]<;>decide
   ·simp only;omega
 ·simp only[zdj,List.length_append,List.length_cons,List.length_nil]at hk
  simp only[zdj,T]
  rw[if_pos (show j<w.troops.length by omega)]
  split
  ·rename_i hk2
   exact h.ord j k hjk hk2
  ·have hj:j<w.troops.length:=by omega
   rw[if_pos (by omega)]
   have ok:=(h.trp j hj).id
   refine⟨by simp only;omega,fun e => ?_⟩
   exact c2 _ (za1 _ _ hj) e
theorem zh0 {w:Wld} {id:Int} {i:Nat} (h:w.troops.findIdx? (zqg id)=some i):i<w.troops.length:=by
 obtain⟨hi,_⟩:=List.findIdx?_eq_some_iff_getElem.1 h
 exact hi
theorem zwl {w:Wld} (h:Right w) (d:Ded):Right (zfi w d).1:=by
 unfold zfi
 split
 ·split
  ·rename_i i hi
   split
   ·rename_i ho;exact zwi h (zh0 hi) ho
   ·exact h
  ·exact h
 ·split
  ·split
   ·rename_i i hi
    split
    ·exact zwk h (zh0 hi)
    ·exact h
   ·exact h
  ·split
   ·split
    ·rename_i ho
     split
     ·rename_i c hc;exact zwj h ho (List.find?_some hc)
     ·exact h
    ·exact h
   ·exact h
def za8 (w:Wld):List Ded→Wld × List Bool
 | []=>(w,[])
 | d::r=>((za8 (zfi w d).1 r).1,(zfi w d).2::(za8 (zfi w d).1 r).2)
theorem zsx (l:List Ded) (d:Ded):∀w,za8 w (l ++ [d])=((zfi (za8 w l).1 d).1,(za8 w l).2 ++ [(zfi (za8 w l).1 d).2]):=by
 induction l with
 | nil=>intro w;rfl
 | cons a r ih=>intro w;simp only[List.cons_append,za8];rw[ih]
theorem zkh (l:List Ded):∀ {w:Wld},Right w→Right (za8 w l).1:=by
 induction l with
 | nil=>intro w h;exact h
 | cons a r ih=>intro w h;exact ih (zwl h a)
theorem zxi (l:List Ded):∀w,(za8 w l).2.length=l.length:=by
 induction l with
 | nil=>intro w;rfl
 | cons a r ih=>intro w;simp only[za8,List.length_cons,ih]
end Go.Proofs.YtmjbgbmegbkmhaaGreat
namespace Go.Proofs.YtmjbgbmegbkmhaaGreat
set_option linter.all false
open Go.RowKit
set_option maxRecDepth 100000
set_option maxHeartbeats 1000000
theorem z4x {α : Type} (l:List α) (i:Nat) (d : α) (h:i<l.length):l.getD i d=l[i]:=by simp[h]
abbrev zor (d:Ded):AV := .agg [I .i64 d.kind,I .i64 d.who,I .i64 d.c.x,I .i64 d.c.y,I .i64 d.what]
abbrev ya7 (w:Wld) (i j k:Nat):List AV := [I .i64 w.f.w,I .i64 w.f.h,.c (.sl 1 (w.f.p.map zac)),.c (.sl 2 (w.bases.map za6)),.own i,.own j,.own k,I .i64 w.next,I .i64 w.now]
abbrev stR (w:Wld):Chunk := .row 3 1 (w.stocks.map zac)
abbrev miR (w:Wld):Chunk := .row 3 1 (w.mines.map zac)
abbrev trR (w:Wld):Chunk := .row 108 7 (w.troops.map zat)
abbrev zfc (w:Wld):List Chunk := [.blk 200 (ya7 w 1 2 3),stR w,miR w,trR w]
theorem ydo (id:Int) (t:Trp):Spec Tryz.prog 182 ([] ++ [ya4 t] ++ [.fel 1 [[pI id]] 0 0]) [] (B (zqg id t)) []:=by
 refine spB Tryz.func182 8 [.tmp 3] Tryz.results182 ?_
 try refine xst ?_
 (first|(refine zas rfl (Wk.of ?_);(try simp(etaStruct := .none)only[push_cast,zab,seval]);first|done|(simp[zqg, *];done)|(simp_all[zqg];done))|(refine zas rfl ?_;(try simp(etaStruct := .none)only[push_cast,zab,seval]);(try simp[zqg, *]);(try exact wkc)))
theorem zu5 (w:Wld) (id:Int) (hw:Right w) (h:w.troops.findIdx? (zqg id)=none):Spec Tryz.prog 165 [.ptr 0 0 0,I .i64 id] (zfc w) (.c (.v (.pointer none))) (zfc w):=by
 have hz:zjc (zqg id) w.troops = -1:=by unfold zjc;rw[h]
 have hnt:=hw.nt
 refine spB Tryz.func165 22 [.tmp 4] Tryz.results165 ?_
 try refine xst ?_
 refine zcl (zx6 _ [] [.fel 1 [[pI id]] 0 0] w.troops (zqg id) (by omega) (fun t _=>ydo id t) (fun _=>rfl) (fun _=>rfl)) (WkL.refl _) rfl ?_
 rw[hz]
 try refine xst ?_
 refine cI (fun h1 => ?_) fun h1 => ?_
 ·try refine xst ?_
  refine zb6 [0,1,2,3] rfl rfl (by decide) ⟨?_,?_,?_,?_,trivial⟩ trivial ?_<;>simp(etaStruct := .none)only[push_cast,zab,seval]
 ·exact absurd h1 (by decide)
theorem zu4 (w:Wld) (id:Int) (i:Nat) (hw:Right w) (h:w.troops.findIdx? (zqg id)=some i):Spec Tryz.prog 165 [.ptr 0 0 0,I .i64 id] (zfc w) (.ptr 3 i 0) (zfc w):=by
 have hz:zjc (zqg id) w.troops=(i:Int):=by unfold zjc;rw[h]
 have hnt:=hw.nt
 have hi:=zh0 h
 refine spB Tryz.func165 22 [.tmp 4] Tryz.results165 ?_
 try refine xst ?_
 refine zcl (zx6 _ [] [.fel 1 [[pI id]] 0 0] w.troops (zqg id) (by omega) (fun t _=>ydo id t) (fun _=>rfl) (fun _=>rfl)) (WkL.refl _) rfl ?_
 rw[hz]
 try refine xst ?_
 refine cI (fun h1 => ?_) fun h1 => ?_
 ·omega
 ·try refine xst ?_
  refine zb6 [0,1,2,3] rfl rfl (by decide) ⟨?_,?_,?_,?_,trivial⟩ trivial ?_<;>simp(etaStruct := .none)only[push_cast,zab,seval]
theorem z6w (a b:Cel) (ha : -1000000≤a.x∧a.x≤1000000 ∧ -1000000≤a.y∧a.y≤1000000):Spec Tryz.prog 166 [zg6 a,zg6 b] [] (B (ybd a b)) []:=by
 refine spB Tryz.func166 35 [.tmp 4] Tryz.results166 ?_
 try refine xst ?_
 (first|(refine zas rfl (Wk.of ?_);(try simp(etaStruct := .none)only[push_cast,zab,seval]);first|done|(simp[ybd,zaj,Bool.and_assoc, *];done)|(simp_all[ybd,zaj,Bool.and_assoc];done))|(refine zas rfl ?_;(try simp(etaStruct := .none)only[push_cast,zab,seval]);(try simp[ybd,zaj,Bool.and_assoc, *]);(try exact wkc)))
theorem zw9 (w:Wld) (d:Ded) (hw:Right w) (h:w.troops.findIdx? (zqg d.who)=none):Spec Tryz.prog 135 [.ptr 0 0 0,zor d] (zfc w) (B false) (zfc w):=by
 refine spB Tryz.func135 88 [.tmp 4] Tryz.results135 ?_
 try refine xst ?_
 refine caM [0,1,2,3] (zu5 w d.who hw h) ?_
 try refine xst ?_
 refine z09 ?_ ?_
 ·rfl
 try refine xst ?_
 (try(refine⟨by kernel_rfl,?_⟩))
 try refine xst ?_
 refine cI (fun h1 => ?_) fun h1 => ?_
 ·try refine xst ?_
  refine zb6 [0,1,2,3] rfl rfl (by decide) ⟨?_,?_,?_,?_,trivial⟩ trivial ?_<;>simp(etaStruct := .none)only[push_cast,zab,seval]
 ·exact absurd h1 (by decide)
theorem z00 (w:Wld) (d:Ded) (i:Nat) (hw:Right w) (h:w.troops.findIdx? (zqg d.who)=some i) (b:Bool) (W:Wld) (hW:(zeq w d i=true→W=zkt w i (zal w.f d.c)∧b=true)∧(zeq w d i=false→W=w∧b=false)):Spec Tryz.prog 135 [.ptr 0 0 0,zor d] (zfc w) (B b) (zfc W):=by
 have hi:=zh0 h
 have ok:=hw.trp i hi
 have hav:atV w.f d.c=if inF w.f d.c then (zah w.f d.c,0)else (0,7):=by unfold atV;rw[if_neg (by simp[hw.f])]
 have hx:=ok.x;have hy:=ok.y
 have hfl:=zbh hw.f
 have hld:=ok.load
 refine spB Tryz.func135 88 [.tmp 4] Tryz.results135 ?_
 try refine xz2 (gd hi) zbf ?_
 refine caM [0,1,2,3] (zu4 w d.who i hw h) ?_
 try refine xz2 (gd hi) zbf ?_
 refine gcP (fun hcc=>z6w (w.troops.getD i default).c d.c (by omega)) ?_
 try refine xz2 (gd hi) zbf ?_
 (try(refine⟨by kernel_rfl,?_⟩))
 try refine xz2 (gd hi) zbf ?_
 refine cI (fun h1 => ?_) fun h1 => ?_
 ·have e:zeq w d i=false:=by
   unfold zeq
   simp only[Bool.and_eq_false_iff,decide_eq_false_iff_not]
   rcases h1 with (h1|h1)|h1
   ·exact .inl (.inl (.inl (.inl (by omega))))
   ·exact .inl (.inl (.inl (.inr (by omega))))
   ·exact .inl (.inl (.inr h1))
  obtain⟨rfl,rfl⟩:=hW.2 e
  try refine xz2 (gd hi) zbf ?_
  refine zb6 [0,1,2,3] rfl rfl (by decide) ⟨?_,?_,?_,?_,trivial⟩ trivial ?_<;>simp(etaStruct := .none)only[push_cast,zab,seval,zkt,zbp,List.map_set,zac,zat]
 ·try refine xz2 (gd hi) zbf ?_
  refine caP (zxv w.f d.c hw.l.1) ?_
  rw[hav]
  try refine xz2 (gd hi) zbf ?_
  (try(refine⟨by kernel_rfl,?_⟩))
  try refine xz2 (gd hi) zbf ?_
  refine cI (fun h2 => ?_) fun h2 => ?_
  ·have hin:inF w.f d.c=false:=by
    cases hc:inF w.f d.c with
    | false=>rfl
    | true=>rw[hc]at h2;simp at h2
   have e:zeq w d i=false:=by unfold zeq;rw[hin];simp
   obtain⟨rfl,rfl⟩:=hW.2 e
   try refine xz2 (gd hi) zbf ?_
   refine zb6 [0,1,2,3] rfl rfl (by decide) ⟨?_,?_,?_,?_,trivial⟩ trivial ?_<;>simp(etaStruct := .none)only[push_cast,zab,seval,zkt,zbp,List.map_set,zac,zat]
  ·have hin:inF w.f d.c=true:=by
    cases hc:inF w.f d.c with
    | true=>rfl
    | false=>rw[hc]at h2;simp at h2
   obtain⟨m1,m2,m3,m4⟩:=z6v hw hin
   obtain⟨m,hm⟩:∃m,m=zal w.f d.c:=⟨_,rfl⟩
   rw[←hm]at m1 m2
   have hml:=hw.ml
   have hpl:=hw.places
   have ew1:IntKind.i64.wrap (IntKind.i64.wrap (d.c.y*w.f.w)+d.c.x)=(m:Int):=by rw[zak (d.c.y*w.f.w) (by omega) (by omega),zak _ (by omega) (by omega)];exact m2
   have hmb:=(hw.mine m m1).1
   try refine xz5 (gd hi) zbf ew1 (gd m1) za4 ?_
   (try(refine⟨by kernel_rfl,?_⟩))
   try refine xz5 (gd hi) zbf ew1 (gd m1) za4 ?_
   refine cI (fun h3 => ?_) fun h3 => ?_
   ·have e:zeq w d i=false:=by
     unfold zeq
     rw[←hm,h3];simp
    obtain⟨rfl,rfl⟩:=hW.2 e
    try refine xz5 (gd hi) zbf ew1 (gd m1) za4 ?_
    refine zb6 [0,1,2,3] rfl rfl (by decide) ⟨?_,?_,?_,?_,trivial⟩ trivial ?_<;>simp(etaStruct := .none)only[push_cast,zab,seval,zkt,zbp,List.map_set,zac,zat]
   ·have e:zeq w d i=true:=by
     unfold zeq
     rw[←hm,hin]
     simp only[Bool.and_eq_true,decide_eq_true_eq]
     exact⟨⟨⟨⟨by omega,by omega⟩,h1.2⟩,trivial⟩,by omega⟩
    obtain⟨rfl,rfl⟩:=hW.1 e
    rw[←hm]
    try refine xz5 (gd hi) zbf ew1 (gd m1) za4 ?_
    refine zb6 [0,1,2,3] rfl rfl (by decide) ⟨?_,?_,?_,?_,trivial⟩ trivial ?_<;>simp(etaStruct := .none)only[push_cast,zab,seval,zkt,zbp,List.map_set,zac,zat]
theorem zxb (w:Wld) (d:Ded) (hw:Right w) (h:w.troops.findIdx? (zqg d.who)=none):Spec Tryz.prog 136 [.ptr 0 0 0,zor d] (zfc w) (B false) (zfc w):=by
 refine spB Tryz.func136 80 [.tmp 4] Tryz.results136 ?_
 try refine xst ?_
 refine caM [0,1,2,3] (zu5 w d.who hw h) ?_
 try refine xst ?_
 refine z09 ?_ ?_
 ·rfl
 try refine xst ?_
 (try(refine⟨by kernel_rfl,?_⟩))
 try refine xst ?_
 refine cI (fun h1 => ?_) fun h1 => ?_
 ·try refine xst ?_
  refine zb6 [0,1,2,3] rfl rfl (by decide) ⟨?_,?_,?_,?_,trivial⟩ trivial ?_<;>simp(etaStruct := .none)only[push_cast,zab,seval]
 ·exact absurd h1 (by decide)
theorem drop_zero {w:Wld} (hw:Right w) {i:Nat} (hi:i<w.troops.length) (h:(w.troops.getD i default).load=0):zgf w i=0∧zea w i=w:=by
 have hn:=zsw hw hi
 have h0:zgf w i=0:=by omega
 obtain⟨o,e,ho,hs⟩:=zt9 hw hi
 refine⟨h0,?_⟩
 unfold zea
 rw[h0,Int.add_zero,Int.sub_zero,ztq _ _ (by omega)]
 have:zbp (w.troops.getD i default) (w.troops.getD i default).load=w.troops.getD i default:=rfl
 rw[this,ztq _ _ hi]
theorem z08 (w:Wld) (d:Ded) (i:Nat) (hw:Right w) (h:w.troops.findIdx? (zqg d.who)=some i) (b:Bool) (W:Wld) (hW:(zmp w i=true→W=zea w i∧b=decide (0<zgf w i))∧(zmp w i=false→W=w∧b=false)):Spec Tryz.prog 136 [.ptr 0 0 0,zor d] (zfc w) (B b) (zfc W):=by
 have hi:=zh0 h
 have ok:=hw.trp i hi
 obtain⟨o,eo,ho,hs⟩:=zt9 hw hi
 have hn:=zsw hw hi
 have hb:=hw.base o ho
 have hbx:=inF_iff.1 (ground_iff.1 hb.1).1
 have hfl:=zbh hw.f
 have hld:=ok.load
 have eo2:(w.troops.getD i default).owner.toNat=o:=by omega
 have edN:zgf w i=min (w.troops.getD i default).load (1000000-w.stocks.getD o default):=by unfold zgf;rw[eo2]
 have ew1:IntKind.i64.wrap (1000000-w.stocks.getD o default)=1000000-w.stocks.getD o default:=zak _ (by omega) (by omega)
 have emn:(if 1000000-w.stocks.getD o default<(w.troops.getD i default).load then 1000000-w.stocks.getD o default else (w.troops.getD i default).load)=zgf w i:=by rw[edN];split<;>omega
 rw[eo2]at hn
 have ew3:IntKind.i64.wrap ((w.troops.getD i default).load-zgf w i)=(w.troops.getD i default).load-zgf w i:=zak _ (by rcases ok.kind with k|k<;>omega) (by rcases ok.kind with k|k<;>omega)
 have setg:∀x:List PV,((w.troops.map zat).set i x).getD i []=x:=fun x=>by rw[z4x _ _ _ (by simpa using hi)];simp
 refine spB Tryz.func136 80 [.tmp 4] Tryz.results136 ?_
 iterate 2(try simp(etaStruct := .none)only[push_cast,zab,seval,setg,zaa _ _ _ hi,zat,eo,zaa _ _ _ ho,za6,zaa _ _ _ hs,zac,ew1,emn];try refine xsu ?_)
 refine caM [0,1,2,3] (zu4 w d.who i hw h) ?_
 iterate 2(try simp(etaStruct := .none)only[push_cast,zab,seval,setg,zaa _ _ _ hi,zat,eo,zaa _ _ _ ho,za6,zaa _ _ _ hs,zac,ew1,emn];try refine xsu ?_)
 refine gcP (fun hcc=>z6w (w.bases.getD o default) (w.troops.getD i default).c (by omega)) ?_
 iterate 2(try simp(etaStruct := .none)only[push_cast,zab,seval,setg,zaa _ _ _ hi,zat,eo,zaa _ _ _ ho,za6,zaa _ _ _ hs,zac,ew1,emn];try refine xsu ?_)
 (try(refine⟨by kernel_rfl,?_⟩))
 iterate 2(try simp(etaStruct := .none)only[push_cast,zab,seval,setg,zaa _ _ _ hi,zat,eo,zaa _ _ _ ho,za6,zaa _ _ _ hs,zac,ew1,emn];try refine xsu ?_)
 refine cI (fun h1 => ?_) fun h1 => ?_
 ·have hd:W=w∧b=false:=by
   rcases h1 with h1|h1
   ·obtain⟨z1,z2⟩:=drop_zero hw hi h1
    cases hk:zmp w i with
    | true=>obtain⟨q1,q2⟩:=hW.1 hk;rw[q1,q2,z1,z2];exact⟨rfl,rfl⟩
    | false=>exact hW.2 hk
   ·exact hW.2 (by unfold zmp;rw[eo2];exact h1)
  obtain⟨rfl,rfl⟩:=hd
  iterate 2(try simp(etaStruct := .none)only[push_cast,zab,seval,setg,zaa _ _ _ hi,zat,eo,zaa _ _ _ ho,za6,zaa _ _ _ hs,zac,ew1,emn];try refine xsu ?_)
  refine zb6 [0,1,2,3] rfl rfl (by decide) ⟨?_,?_,?_,?_,trivial⟩ trivial ?_
  ·simp(etaStruct := .none)only[push_cast,zab,seval,zea]
  ·simp(etaStruct := .none)only[push_cast,zab,seval,zea,eo2,List.map_set,zac]
  ·simp(etaStruct := .none)only[push_cast,zab,seval,zea]
  ·simp(etaStruct := .none)only[push_cast,zab,seval,zea,zbp,List.map_set,zat,eo,ew3]
  ·simp(etaStruct := .none)only[push_cast,zab,seval]
 ·obtain⟨rfl,rfl⟩:=hW.1 (by unfold zmp;rw[eo2];exact h1.2)
  iterate 2(try simp(etaStruct := .none)only[push_cast,zab,seval,setg,zaa _ _ _ hi,zat,eo,zaa _ _ _ ho,za6,zaa _ _ _ hs,zac,ew1,emn];try refine xsu ?_)
  (try(refine⟨by kernel_rfl,?_⟩))
  iterate 2(try simp(etaStruct := .none)only[push_cast,zab,seval,setg,zaa _ _ _ hi,zat,eo,zaa _ _ _ ho,za6,zaa _ _ _ hs,zac,ew1,emn];try refine xsu ?_)
  (try(refine⟨by kernel_rfl,?_⟩))
  iterate 2(try simp(etaStruct := .none)only[push_cast,zab,seval,setg,zaa _ _ _ hi,zat,eo,zaa _ _ _ ho,za6,zaa _ _ _ hs,zac,ew1,emn];try refine xsu ?_)
  refine zb6 [0,1,2,3] rfl rfl (by decide) ⟨?_,?_,?_,?_,trivial⟩ trivial ?_
  ·simp(etaStruct := .none)only[push_cast,zab,seval,zea]
  ·simp(etaStruct := .none)only[push_cast,zab,seval,zea,eo2,List.map_set,zac]
  ·simp(etaStruct := .none)only[push_cast,zab,seval,zea]
  ·simp(etaStruct := .none)only[push_cast,zab,seval,zea,zbp,List.map_set,zat,eo,ew3]
  ·simp(etaStruct := .none)only[push_cast,zab,seval]
theorem z7t (F:FuncId) (a b:List AV) (l:List Trp) (p:Trp→Bool) (hl:l.length≤9223372036854775807) (hp:∀n∈l,Spec Tryz.prog F (a ++ [ya4 n]++b) [] (B (p n)) []) (ha:∀h,cvL [] h a=a) (hb:∀h,cvL [] h b=b) :
 Spec Tryz.prog 183 [.c (.sl 7 (l.map zat)),.clo (.func F) a b] [] (B (l.any p)) []:=by
 refine spB Tryz.func183 9 [.tmp 4] Tryz.results183 ?_
 simp(etaStruct := .none)only[push_cast,zab,seval]
 refine zdz (zx6 F a b l p hl hp ha hb) (by simp only[ha,hb,cvL,cv];exact WkL.refl _) ?_
 simp(etaStruct := .none)only[push_cast,zab,seval]
 exact zcj rfl trivial (Wk.of (by rw[ze4];rfl))
theorem yhb (t:Trp) (c:Cel):Spec Tryz.prog 184 ([] ++ [ya4 t] ++ [.fel 2 [[pI c.x,pI c.y]] 0 0]) [] (B (decide (t.c=c))) []:=by
 refine spB Tryz.func184 8 [.tmp 3] Tryz.results184 ?_
 try refine xz1 zg5 ?_
 exact xrz rfl
theorem z16 (b:Cel) {i j:Nat} (hi:i<3) (hj:j<3):(zdd b).getD (1+3*i+j) default=⟨b.x+((j:Int)-1),b.y+((i:Int)-1)⟩:=by
 have h1:i=0∨i=1∨i=2:=by omega
 have h2:j=0∨j=1∨j=2:=by omega
 obtain⟨x,y⟩:=b
 have e1:x+(((1:Nat):Int)-1)=x:=by omega
 have e2:y+(((1:Nat):Int)-1)=y:=by omega
 have e3:x+(((0:Nat):Int)-1)=x-1:=by omega
 have e4:y+(((0:Nat):Int)-1)=y-1:=by omega
 have e5:x+(((2:Nat):Int)-1)=x+1:=by omega
 have e6:y+(((2:Nat):Int)-1)=y+1:=by omega
 rcases h1 with rfl|rfl|rfl<;>rcases h2 with rfl|rfl|rfl<;>simp only[e1,e2,e3,e4,e5,e6]<;>rfl
theorem zs5 (b:Cel) {i j:Nat} (hi:i<3) (hj:j<3):(zdd b).take (1+3*i+(j+1))=(zdd b).take (1+3*i+j) ++ [(⟨b.x+((j:Int)-1),b.y+((i:Int)-1)⟩:Cel)]:=by
 rw[←z16 b hi hj]
 change (zdd b).take ((1+3*i+j)+1)=_
 exact zaq _ _ (by rw[show (zdd b).length=10 from rfl];omega)
theorem z03 (w:Wld) (b:Cel) (hw:Right w) (hb : -1000≤b.x∧b.x≤1000 ∧ -1000≤b.y∧b.y≤1000) (c:Cel) (q:Bool) (h:(∀c',zsq w b=some c'→c=c'∧q=true)∧(zsq w b=none→c=⟨0,0⟩∧q=false)):Spec Tryz.prog 167 [.ptr 0 0 0,zg6 b] (zfc w) (.tup [zg6 c,B q]) (zfc w):=by
 have hal:(zdd b).length=10:=rfl
 have hnt:=hw.nt
 have hav:∀c,atV w.f c=if inF w.f c then (zah w.f c,0)else (0,7):=fun c=>by unfold atV;rw[if_neg (by simp[hw.f])]
 refine spB Tryz.func167 70 [.cell 4 46,.tmp 5] Tryz.results167 ?_
 try refine xst ?_
 refine zay (fun i:Nat=>⟨[(7,I .i64 ((i:Int)-1)),(6,.own 6),(4,.ptr 5 0 0),(3,.ptr 4 0 0),(0,.ptr 0 0 0)],[(0,.blk 200 (ya7 w 1 2 3)),(1,stR w),(2,miR w),(3,trR w),(4,.blk 46 [I .i64 b.x,I .i64 b.y]),(5,.blk 46 [I .i64 0,I .i64 0]),(6,.row 46 2 (((zdd b).take (1+3*i)).map za6))],7⟩) (fun i:Nat=>i≤3) (fun i:Nat=>3-i) (0) (Nat.zero_le _) (To.mk [0,1,2,3,4,5,6] rfl rfl (by decide) ?_ ?_) ?_
 ·simp(etaStruct := .none)only[push_cast,zab,seval,zdd,za6]
 ·simp(etaStruct := .none)only[push_cast,zab,seval,Int.zero_sub]
 rintro i hi
 try refine xst ?_
 refine cI (fun h1 => ?_) fun h1 => ?_
 ·have hi3:i<3:=by omega
  try refine xst ?_
  refine zay (fun j:Nat=>⟨[(8,I .i64 ((j:Int)-1)),(7,I .i64 ((i:Int)-1)),(6,.own 6),(4,.ptr 5 0 0),(3,.ptr 4 0 0),(0,.ptr 0 0 0)],[(0,.blk 200 (ya7 w 1 2 3)),(1,stR w),(2,miR w),(3,trR w),(4,.blk 46 [I .i64 b.x,I .i64 b.y]),(5,.blk 46 [I .i64 0,I .i64 0]),(6,.row 46 2 (((zdd b).take (1+3*i+j)).map za6))],7⟩) (fun j:Nat=>j≤3) (fun j:Nat=>3-j) (0) (Nat.zero_le _) (To.mk [0,1,2,3,4,5,6] rfl rfl (by decide) ?_ ?_) ?_
  ·simp(etaStruct := .none)only[push_cast,zab,seval]
  ·simp(etaStruct := .none)only[push_cast,zab,seval,Int.zero_sub]
  rintro j hj
  try refine xst ?_
  refine cI (fun h2 => ?_) fun h2 => ?_
  ·have hj3:j<3:=by omega
   have hst:=zs5 b hi3 hj3
   have hln:((zdd b).take (1+3*i+j)).length≤10:=by rw[List.length_take,hal];omega
   try refine xst ?_
   refine⟨j+1,by omega,by omega,To.mk [0,1,2,3,4,5,8] rfl rfl (by decide) ?_ ?_⟩
   ·(iterate 2((try simp(etaStruct := .none)only[push_cast,zab,seval,hst,List.map_append,za6]);(try(refine xsu ?_;try exact xtI))))
   ·(iterate 2((try simp(etaStruct := .none)only[push_cast,zab,seval,Int.add_sub_cancel,Int.sub_add_cancel]);(try(refine xsu ?_;try exact xtI))))
  ·obtain rfl:j=3:=by omega
   try refine xst ?_
   refine⟨i+1,by omega,by omega,To.mk [0,1,2,3,4,5,6] rfl rfl (by decide) ?_ ?_⟩
   ·(iterate 2((try simp(etaStruct := .none)only[push_cast,zab,seval,Nat.mul_add,Nat.mul_one,Nat.add_assoc]);(try(refine xsu ?_;try exact xtI))))
   ·(iterate 2((try simp(etaStruct := .none)only[push_cast,zab,seval,Int.add_sub_cancel,Int.sub_add_cancel]);(try(refine xsu ?_;try exact xtI))))
 ·obtain rfl:i=3:=by omega
  have hta:(zdd b).take (1+3*3)=zdd b:=rfl
  try refine xst ?_
  refine zay (fun k:Nat=>⟨[(37,I .i64 k),(36,I .i64 10),(35,.own 6),(4,.ptr 5 0 0),(0,.ptr 0 0 0)],[(0,.blk 200 (ya7 w 1 2 3)),(1,stR w),(2,miR w),(3,trR w),(4,.blk 46 [I .i64 b.x,I .i64 b.y]),(5,.blk 46 [I .i64 0,I .i64 0]),(6,.row 46 2 ((zdd b).map za6))],7⟩) (fun k:Nat=>k≤10∧∀j,j<k→zqp w ((zdd b).getD j default)=false) (fun k:Nat=>10-k) (0) (⟨Nat.zero_le _,fun j h=>absurd h (Nat.not_lt_zero _)⟩) (To.mk [0,1,2,3,4,5,6] rfl rfl (by decide) ?_ ?_) ?_
  ·simp(etaStruct := .none)only[push_cast,zab,seval,hta]
  ·simp(etaStruct := .none)only[push_cast,zab,seval,hta,hal]
  rintro k ⟨hk,hn⟩
  try refine xst ?_
  refine zau (fun h3 => ?_) (fun h3 => ?_)
  ·(try replace h3:=xhh h3)
   have hlt:k<(zdd b).length:=by rw[hal];omega
   obtain⟨x,hx⟩:∃x,x=(zdd b).getD k default:=⟨_,rfl⟩
   (iterate 2((try simp(etaStruct := .none) (maxSteps:=1000000)only[push_cast,zab,seval,zaa _ _ _ hlt,←hx,za6]);(try(refine xsu ?_;try exact xtI))))
   refine caP (zxv w.f x hw.l.1) ?_
   rw[hav]
   (iterate 2((try simp(etaStruct := .none) (maxSteps:=1000000)only[push_cast,zab,seval,zaa _ _ _ hlt,←hx,za6]);(try(refine xsu ?_;try exact xtI))))
   (try(refine⟨by kernel_rfl,?_⟩))
   (iterate 2((try simp(etaStruct := .none) (maxSteps:=1000000)only[push_cast,zab,seval,zaa _ _ _ hlt,←hx,za6]);(try(refine xsu ?_;try exact xtI))))
   refine zk9 (fun hcc=>z7t _ [] [.fel 2 [[pI x.x,pI x.y]] 0 0] w.troops (fun t=>decide (t.c=x)) (by omega) (fun t _=>yhb t x) (fun _=>rfl) (fun _=>rfl)) (WkL.refl _) rfl (by intro hc;(try simp(etaStruct := .none)only[push_cast,zab,seval]);(try simp_all)) ?_
   (iterate 2((try simp(etaStruct := .none) (maxSteps:=1000000)only[push_cast,zab,seval,zaa _ _ _ hlt,←hx,za6]);(try(refine xsu ?_;try exact xtI))))
   refine cI (fun h4 => ?_) fun h4 => ?_
   ·have hfb:zqp w x=true:=by
     unfold zqp zb0
     cases hc:inF w.f x with
     | false=>rw[hc]at h4;simp at h4
     | true =>
      rw[hc]at h4
      simp only[if_true]at h4
      rw[h4.2];simp;exact h4.1.2
    obtain⟨rfl,rfl⟩:=h.1 x (by unfold zsq;rw[hx];exact z46 _ _ k hlt (by rw[←hx];exact hfb) hn)
    (iterate 2((try simp(etaStruct := .none) (maxSteps:=1000000)only[push_cast,zab,seval,zaa _ _ _ hlt,←hx,za6]);(try(refine xsu ?_;try exact xtI))))
    refine zb6 [0,1,2,3] rfl rfl (by decide) ⟨?_,?_,?_,?_,trivial⟩ ?_ ?_<;>first|exact Wk.refl _|(try simp(etaStruct := .none)only[push_cast,zab,seval])
   ·have hfb:zqp w x=false:=by
     unfold zqp zb0
     cases hc:inF w.f x with
     | false=>rfl
     | true =>
      rw[hc]at h4
      simp only[if_true]at h4
      rcases h4 with h4|h4
      ·by_cases hp:zah w.f x=1
       ·simp[hp]
       ·exact absurd (h4.resolve_left (fun n=>n trivial)) hp
      ·rw[h4];simp
    (iterate 2((try simp(etaStruct := .none) (maxSteps:=1000000)only[push_cast,zab,seval,zaa _ _ _ hlt,←hx,za6]);(try(refine xsu ?_;try exact xtI))))
    refine⟨k+1,⟨by omega,fun j hj=>by
 rcases Nat.lt_or_ge j k with h'|h'
 ·exact hn j h'
 ·rw [show j = k by omega, ← hx]; exact hfb⟩, by omega, To.mk [0, 1, 2, 3, 4, 5, 6] rfl rfl (by decide) ?_ ?_⟩
    ·(iterate 2((try simp(etaStruct := .none) (maxSteps:=1000000)only[push_cast,zab,seval,zaa _ _ _ hlt,←hx,za6]);(try(refine xsu ?_;try exact xtI))))
    ·(iterate 2((try simp(etaStruct := .none) (maxSteps:=1000000)only[push_cast,zab,seval,zaa _ _ _ hlt,←hx,za6]);(try(refine xsu ?_;try exact xtI))))
  ·(try replace h3:=xhh h3)
   obtain⟨rfl,rfl⟩:=h.2 (z1c _ _ (fun j hj=>hn j (by rw[hal]at hj;omega)))
   try refine xst ?_
   refine zb6 [0,1,2,3] rfl rfl (by decide) ⟨?_,?_,?_,?_,trivial⟩ ?_ ?_<;>first|exact Wk.refl _|(try simp(etaStruct := .none)only[push_cast,zab,seval])
end Go.Proofs.YtmjbgbmegbkmhaaGreat
namespace Go.Proofs.YtmjbgbmegbkmhaaGreat
set_option linter.all false
open Go.RowKit
set_option maxRecDepth 100000
set_option maxHeartbeats 2000000
theorem zk4 (k:Int):zfg k=0↔k=1∨k=2:=by unfold zfg;split<;>(try split)<;>omega
theorem zvt {w:Wld} (hw:Right w) {i:Nat} (hi:i<w.bases.length) : -1000≤(w.bases.getD i default).x∧(w.bases.getD i default).x≤1000 ∧ -1000≤(w.bases.getD i default).y∧(w.bases.getD i default).y≤1000:=by
 have:=inF_iff.1 (ground_iff.1 (hw.base i hi).1).1
 have:=zbh hw.f
 omega
theorem z02 (w:Wld) (d:Ded) (hw:Right w) (h:w.stocks.length≤d.who.toNat):Spec Tryz.prog 137 [.ptr 0 0 0,zor d] (zfc w) (B false) (zfc w):=by
 have hsl:=hw.sl
 have hg:(w.stocks.map zac).getD d.who.toNat [] = []:=by
  simp only[List.getD_eq_getElem?_getD];rw[List.getElem?_eq_none (by rw[List.length_map];exact h)];rfl
 have hge:d.who<0∨(w.bases.length:Int)≤d.who:=by omega
 refine spB Tryz.func137 126 [.tmp 4] Tryz.results137 ?_
 (iterate 2((try simp(etaStruct := .none) (maxSteps:=1000000)only[push_cast,zab,seval,hg]);(try(refine xsu ?_;try exact xtI))))
 refine caP (zgp d.what) ?_
 (iterate 2((try simp(etaStruct := .none) (maxSteps:=1000000)only[push_cast,zab,seval,hg]);(try(refine xsu ?_;try exact xtI))))
 (try(refine⟨by kernel_rfl,?_⟩))
 (iterate 2((try simp(etaStruct := .none) (maxSteps:=1000000)only[push_cast,zab,seval,hg]);(try(refine xsu ?_;try exact xtI))))
 refine cI (fun h1 => ?_) fun h1 => ?_
 ·(iterate 2((try simp(etaStruct := .none) (maxSteps:=1000000)only[push_cast,zab,seval,hg]);(try(refine xsu ?_;try exact xtI))))
  refine zb6 [0,1,2,3] rfl rfl (by decide) ⟨?_,?_,?_,?_,trivial⟩ trivial ?_<;>first|exact Wk.refl _|simp(etaStruct := .none)only[push_cast,zab,seval]
 ·exact absurd h1 (by decide)
theorem zu6 (w:Wld) (d:Ded) (hw:Right w) (h:d.who.toNat<w.stocks.length) (hno:zk7 w d=false∨zsq w (w.bases.getD d.who.toNat default)=none):Spec Tryz.prog 137 [.ptr 0 0 0,zor d] (zfc w) (B false) (zfc w):=by
 have hsl:=hw.sl
 have hb:d.who.toNat<w.bases.length:=by omega
 have hbb:=zvt hw hb
 have hnt:=hw.nt
 refine spB Tryz.func137 126 [.tmp 4] Tryz.results137 ?_
 (iterate 2((try simp(etaStruct := .none) (maxSteps:=1000000)only[push_cast,zab,seval,zaa _ _ _ h,zaa _ _ _ hb,zac,za6]);(try(refine xsu ?_;try exact xtI))))
 refine caP (zgp d.what) ?_
 (iterate 2((try simp(etaStruct := .none) (maxSteps:=1000000)only[push_cast,zab,seval,zaa _ _ _ h,zaa _ _ _ hb,zac,za6]);(try(refine xsu ?_;try exact xtI))))
 (try(refine⟨by kernel_rfl,?_⟩))
 (iterate 2((try simp(etaStruct := .none) (maxSteps:=1000000)only[push_cast,zab,seval,zaa _ _ _ h,zaa _ _ _ hb,zac,za6]);(try(refine xsu ?_;try exact xtI))))
 refine cI (fun h1 => ?_) fun h1 => ?_
 ·(iterate 2((try simp(etaStruct := .none) (maxSteps:=1000000)only[push_cast,zab,seval,zaa _ _ _ h,zaa _ _ _ hb,zac,za6]);(try(refine xsu ?_;try exact xtI))))
  refine zb6 [0,1,2,3] rfl rfl (by decide) ⟨?_,?_,?_,?_,trivial⟩ trivial ?_<;>first|exact Wk.refl _|simp(etaStruct := .none)only[push_cast,zab,seval]
 ·have hy:zk7 w d=true:=by rw[hireOk_iff,←zk4];exact⟨⟨⟨⟨⟨by omega,by omega⟩,by omega⟩,by omega⟩,by omega⟩,by omega⟩
  have hf:zsq w (w.bases.getD d.who.toNat default)=none:=by rcases hno with h2|h2;rw[hy]at h2;simp at h2;exact h2
  (iterate 2((try simp(etaStruct := .none) (maxSteps:=1000000)only[push_cast,zab,seval,zaa _ _ _ h,zaa _ _ _ hb,zac,za6]);(try(refine xsu ?_;try exact xtI))))
  refine zfj [0,1,2,3] (z03 w (w.bases.getD d.who.toNat default) hw hbb ⟨0,0⟩ false ⟨fun c' hc=>by rw[hf]at hc;simp at hc,fun _=>⟨rfl,rfl⟩⟩) (WkL.refl _) rfl (by decide) (by simp[zbu,zez,zq9]) ?_
  (iterate 2((try simp(etaStruct := .none) (maxSteps:=1000000)only[push_cast,zab,seval,zaa _ _ _ h,zaa _ _ _ hb,zac,za6]);(try(refine xsu ?_;try exact xtI))))
  (try(refine⟨by kernel_rfl,?_⟩))
  (iterate 2((try simp(etaStruct := .none) (maxSteps:=1000000)only[push_cast,zab,seval,zaa _ _ _ h,zaa _ _ _ hb,zac,za6]);(try(refine xsu ?_;try exact xtI))))
  refine cI (fun h2 => ?_) fun h2 => ?_
  ·(iterate 2((try simp(etaStruct := .none) (maxSteps:=1000000)only[push_cast,zab,seval,zaa _ _ _ h,zaa _ _ _ hb,zac,za6]);(try(refine xsu ?_;try exact xtI))))
   refine zb6 [0,1,2,3] rfl rfl (by decide) ⟨?_,?_,?_,?_,trivial⟩ trivial ?_<;>first|exact Wk.refl _|simp(etaStruct := .none)only[push_cast,zab,seval]
  ·exact absurd h2 (by decide)
abbrev z24 (w:Wld):List Chunk := [.blk 200 (ya7 w 1 2 4),stR w,miR w,.dead,trR w]
theorem z01 (w:Wld) (d:Ded) (hw:Right w) (ho:zk7 w d=true) (c:Cel) (hc:zsq w (w.bases.getD d.who.toNat default)=some c):Spec Tryz.prog 137 [.ptr 0 0 0,zor d] (zfc w) (B true) (z24 (zdj w d c)):=by
 have hsl:=hw.sl
 have hoi:=hireOk_iff.1 ho
 rw[←zk4]at hoi
 have h:d.who.toNat<w.stocks.length:=by omega
 have hb:d.who.toNat<w.bases.length:=by omega
 have hbb:=zvt hw hb
 have hnt:=hw.nt
 have hnx:=hw.nx
 have hst:=(hw.base _ hb).2.1
 have hpr:0≤(zba d.what).price∧(zba d.what).price≤12:=by rcases (zk4 _).1 hoi.1.1.1.2 with e|e<;>rw[e]<;>decide
 have ew:IntKind.i64.wrap (w.stocks.getD d.who.toNat default-(zba d.what).price)=w.stocks.getD d.who.toNat default-(zba d.what).price:=zak _ (by omega) (by omega)
 have ew2:IntKind.i64.wrap (w.next+1)=w.next+1:=zak _ (by omega) (by omega)
 refine spB Tryz.func137 126 [.tmp 4] Tryz.results137 ?_
 (iterate 2((try simp(etaStruct := .none) (maxSteps:=1000000)only[push_cast,zab,seval,zaa _ _ _ h,zaa _ _ _ hb,zac,za6,ew,ew2]);(try(refine xsu ?_;try exact xtI))))
 refine caP (zgp d.what) ?_
 (iterate 2((try simp(etaStruct := .none) (maxSteps:=1000000)only[push_cast,zab,seval,zaa _ _ _ h,zaa _ _ _ hb,zac,za6,ew,ew2]);(try(refine xsu ?_;try exact xtI))))
 (try(refine⟨by kernel_rfl,?_⟩))
 (iterate 2((try simp(etaStruct := .none) (maxSteps:=1000000)only[push_cast,zab,seval,zaa _ _ _ h,zaa _ _ _ hb,zac,za6,ew,ew2]);(try(refine xsu ?_;try exact xtI))))
 refine cI (fun h1 => ?_) fun h1 => ?_
 ·exfalso;omega
 ·(iterate 2((try simp(etaStruct := .none) (maxSteps:=1000000)only[push_cast,zab,seval,zaa _ _ _ h,zaa _ _ _ hb,zac,za6,ew,ew2]);(try(refine xsu ?_;try exact xtI))))
  refine zfj [0,1,2,3] (z03 w (w.bases.getD d.who.toNat default) hw hbb c true ⟨fun c' hc'=>by rw[hc]at hc';exact⟨(Option.some.inj hc'),rfl⟩,fun hn=>by rw[hc]at hn;simp at hn⟩) (WkL.refl _) rfl (by decide) (by simp[zbu,zez,zq9]) ?_
  (iterate 2((try simp(etaStruct := .none) (maxSteps:=1000000)only[push_cast,zab,seval,zaa _ _ _ h,zaa _ _ _ hb,zac,za6,ew,ew2]);(try(refine xsu ?_;try exact xtI))))
  (try(refine⟨by kernel_rfl,?_⟩))
  (iterate 2((try simp(etaStruct := .none) (maxSteps:=1000000)only[push_cast,zab,seval,zaa _ _ _ h,zaa _ _ _ hb,zac,za6,ew,ew2]);(try(refine xsu ?_;try exact xtI))))
  refine cI (fun h2 => ?_) fun h2 => ?_
  ·exact absurd h2 (by decide)
  ·(iterate 2((try simp(etaStruct := .none) (maxSteps:=1000000)only[push_cast,zab,seval,zaa _ _ _ h,zaa _ _ _ hb,zac,za6,ew,ew2]);(try(refine xsu ?_;try exact xtI))))
   (try(refine⟨by kernel_rfl,?_⟩))
   (iterate 2((try simp(etaStruct := .none) (maxSteps:=1000000)only[push_cast,zab,seval,zaa _ _ _ h,zaa _ _ _ hb,zac,za6,ew,ew2]);(try(refine xsu ?_;try exact xtI))))
   (try(refine⟨by kernel_rfl,?_⟩))
   (iterate 2((try simp(etaStruct := .none) (maxSteps:=1000000)only[push_cast,zab,seval,zaa _ _ _ h,zaa _ _ _ hb,zac,za6,ew,ew2]);(try(refine xsu ?_;try exact xtI))))
   refine zb6 [0,1,2,3,350] rfl rfl (by decide) ⟨?_,?_,?_,?_,?_,trivial⟩ trivial ?_
   ·simp(etaStruct := .none) (maxSteps:=1000000)only[push_cast,zab,seval,zdj]
   ·simp(etaStruct := .none) (maxSteps:=1000000)only[push_cast,zab,seval,zdj,List.map_set,zac]
   ·simp(etaStruct := .none) (maxSteps:=1000000)only[push_cast,zab,seval,zdj]
   ·simp(etaStruct := .none) (maxSteps:=1000000)only[push_cast,zab,seval,zdj]
   ·simp(etaStruct := .none) (maxSteps:=1000000)only[push_cast,zab,seval,zdj,List.map_append,zat]
   ·exact Wk.refl _
theorem zso (w W:Wld) (d:Ded) (b:Bool) (h:d.kind=1) (M:Spec Tryz.prog 135 [.ptr 0 0 0,zor d] (zfc w) (B b) (zfc W)):Spec Tryz.prog 93 [.ptr 0 0 0,zor d] (zfc w) (B b) (zfc W):=by
 refine spB Tryz.func93 22 [.tmp 4] Tryz.results93 ?_
 try refine xst ?_
 refine cI (fun h1 => ?_) fun h1 => ?_
 ·try refine xst ?_
  refine caM [0,1,2,3] (M) ?_
  try refine xst ?_
  refine zb6 [0,1,2,3] rfl rfl (by decide) ⟨?_,?_,?_,?_,trivial⟩ trivial ?_<;>first|exact Wk.refl _|simp(etaStruct := .none)only[push_cast,zab,seval]
 ·exact absurd h h1
theorem zsn (w W:Wld) (d:Ded) (b:Bool) (h:d.kind=2) (M:Spec Tryz.prog 136 [.ptr 0 0 0,zor d] (zfc w) (B b) (zfc W)):Spec Tryz.prog 93 [.ptr 0 0 0,zor d] (zfc w) (B b) (zfc W):=by
 refine spB Tryz.func93 22 [.tmp 4] Tryz.results93 ?_
 try refine xst ?_
 refine cI (fun h1 => ?_) fun h1 => ?_
 ·exfalso;omega
 ·try refine xst ?_
  refine cI (fun h2 => ?_) fun h2 => ?_
  ·try refine xst ?_
   refine caM [0,1,2,3] (M) ?_
   try refine xst ?_
   refine zb6 [0,1,2,3] rfl rfl (by decide) ⟨?_,?_,?_,?_,trivial⟩ trivial ?_<;>first|exact Wk.refl _|simp(etaStruct := .none)only[push_cast,zab,seval]
  ·exact absurd h h2
theorem zsm (w:Wld) (d:Ded) (h:d.kind=3) (M:Spec Tryz.prog 137 [.ptr 0 0 0,zor d] (zfc w) (B false) (zfc w)):Spec Tryz.prog 93 [.ptr 0 0 0,zor d] (zfc w) (B false) (zfc w):=by
 refine spB Tryz.func93 22 [.tmp 4] Tryz.results93 ?_
 try refine xst ?_
 refine cI (fun h1 => ?_) fun h1 => ?_
 ·exfalso;omega
 ·try refine xst ?_
  refine cI (fun h2 => ?_) fun h2 => ?_
  ·exfalso;omega
  ·try refine xst ?_
   refine cI (fun h3 => ?_) fun h3 => ?_
   ·try refine xst ?_
    refine caM [0,1,2,3] (M) ?_
    try refine xst ?_
    refine zb6 [0,1,2,3] rfl rfl (by decide) ⟨?_,?_,?_,?_,trivial⟩ trivial ?_<;>first|exact Wk.refl _|simp(etaStruct := .none)only[push_cast,zab,seval]
   ·exact absurd h h3
theorem z95 (w:Wld) (d:Ded) (h:d.kind≠1∧d.kind≠2∧d.kind≠3):Spec Tryz.prog 93 [.ptr 0 0 0,zor d] (zfc w) (B false) (zfc w):=by
 refine spB Tryz.func93 22 [.tmp 4] Tryz.results93 ?_
 try refine xst ?_
 refine cI (fun h1 => ?_) fun h1 => ?_
 ·exfalso;omega
 ·try refine xst ?_
  refine cI (fun h2 => ?_) fun h2 => ?_
  ·exfalso;omega
  ·try refine xst ?_
   refine cI (fun h3 => ?_) fun h3 => ?_
   ·exfalso;omega
   ·try refine xst ?_
    refine zb6 [0,1,2,3] rfl rfl (by decide) ⟨?_,?_,?_,?_,trivial⟩ trivial ?_<;>first|exact Wk.refl _|simp(etaStruct := .none)only[push_cast,zab,seval]
theorem z94 (w W:Wld) (d:Ded) (h:d.kind=3) (M:Spec Tryz.prog 137 [.ptr 0 0 0,zor d] (zfc w) (B true) (z24 W)):Spec Tryz.prog 93 [.ptr 0 0 0,zor d] (zfc w) (B true) (z24 W):=by
 refine spB Tryz.func93 22 [.tmp 4] Tryz.results93 ?_
 try refine xst ?_
 refine cI (fun h1 => ?_) fun h1 => ?_
 ·exfalso;omega
 ·try refine xst ?_
  refine cI (fun h2 => ?_) fun h2 => ?_
  ·exfalso;omega
  ·try refine xst ?_
   refine cI (fun h3 => ?_) fun h3 => ?_
   ·try refine xst ?_
    refine caM [0,1,2,3] (M) ?_
    try refine xst ?_
    refine zb6 [0,1,2,3,5] rfl rfl (by decide) ⟨?_,?_,?_,?_,?_,trivial⟩ trivial ?_<;>first|exact Wk.refl _|simp(etaStruct := .none)only[push_cast,zab,seval]
   ·exact absurd h h3
theorem z93 (w:Wld) (d:Ded) (hw:Right w):Spec Tryz.prog 93 [.ptr 0 0 0,zor d] (zfc w) (B (zfi w d).2) (zfc (zfi w d).1)∨Spec Tryz.prog 93 [.ptr 0 0 0,zor d] (zfc w) (B (zfi w d).2) (z24 (zfi w d).1):=by
 unfold zfi
 split
 ·rename_i h
  split
  ·rename_i i hi
   split
   ·rename_i ho;exact .inl (zso w _ d true h (z00 w d i hw hi true _ ⟨fun _=>⟨rfl,rfl⟩,fun h2=>by rw[ho]at h2;simp at h2⟩))
   ·rename_i ho;exact .inl (zso w _ d false h (z00 w d i hw hi false _ ⟨fun h2=>absurd h2 ho,fun _=>⟨rfl,rfl⟩⟩))
  ·rename_i hi;exact .inl (zso w _ d false h (zw9 w d hw hi))
 ·split
  ·rename_i h
   split
   ·rename_i i hi
    split
    ·rename_i ho;exact .inl (zsn w _ d _ h (z08 w d i hw hi _ _ ⟨fun _=>⟨rfl,rfl⟩,fun h2=>by rw[ho]at h2;simp at h2⟩))
    ·rename_i ho;exact .inl (zsn w _ d false h (z08 w d i hw hi false _ ⟨fun h2=>absurd h2 ho,fun _=>⟨rfl,rfl⟩⟩))
   ·rename_i hi;exact .inl (zsn w _ d false h (zxb w d hw hi))
  ·split
   ·rename_i h
    split
    ·rename_i ho
     split
     ·rename_i c hc;exact .inr (z94 w _ d h (z01 w d hw ho c hc))
     ·rename_i hc
      have hoi:=hireOk_iff.1 ho
      exact .inl (zsm w d h (zu6 w d hw (by have:=hw.sl;omega) (.inr hc)))
    ·rename_i ho
     rcases Nat.lt_or_ge d.who.toNat w.stocks.length with h2|h2
     ·exact .inl (zsm w d h (zu6 w d hw h2 (.inl (by simpa using ho))))
     ·exact .inl (zsm w d h (z02 w d hw h2))
   ·exact .inl (z95 w d ⟨by assumption,by assumption,by assumption⟩)
theorem ydp (w:Wld) (hw:Right w):Spec Tryz.prog 92 [zdf w] [] (.agg [I .i64 w.f.w,I .i64 w.f.h,.c (.sl 1 (w.f.p.map zac)),.c (.sl 2 (w.bases.map za6)),.own 0,.own 1,.own 2,I .i64 w.next,I .i64 w.now]) [stR w,miR w,trR w]:=by
 have h1:=hw.places
 have h2:=hw.nb
 have h3:=hw.sl
 have h4:=hw.ml
 have h5:=hw.nt
 refine spB Tryz.func92 26 [.cell 2 28] Tryz.results92 ?_
 try refine xst ?_
 refine caP (ze5 w.f.p (by omega)) ?_
 try refine xst ?_
 refine caP (zoi w.bases (by omega)) ?_
 try refine xst ?_
 refine caM [] (zfs w.stocks (by omega)) ?_
 try refine xst ?_
 (try(refine⟨by kernel_rfl,?_⟩))
 try refine xst ?_
 refine caM [] (zfs w.mines (by omega)) ?_
 try refine xst ?_
 refine caM [] (zox w.troops (by omega)) ?_
 try refine xst ?_
 (try(refine⟨by kernel_rfl,?_⟩))
 try refine xst ?_
 refine zb6 [22,50,62] rfl rfl (by decide) ⟨?_,?_,?_,trivial⟩ ?_ ?_<;>first|exact Wk.refl _|(try simp(etaStruct := .none)only[push_cast,zab,seval])
theorem yi9 (w:Wld) (l:List Ded) (hw:Right w) (hll:l.length≤200):Spec Tryz.prog 49 [zdf w,.c (.sl 5 (l.map zlm))] [] (.tup [zdf (za8 w l).1,.c (.sl 1 ((za8 w l).2.map zet)),I .i64 0]) []:=by
 have he:=hw.e
 refine spB Tryz.func49 40 [.cell 4 28,.tmp 5,.tmp 6] Tryz.results49 ?_
 try refine xst ?_
 refine caP (zd3 w hw.l) ?_
 try refine xst ?_
 refine cI (fun h1 => ?_) fun h1 => ?_
 ·exact absurd he h1
 ·try refine xst ?_
  refine cI (fun h2 => ?_) fun h2 => ?_
  ·omega
  ·try refine xst ?_
   refine caM [] (ydp w hw) ?_
   try refine xst ?_
   refine zay (fun k:Nat=>⟨[(27,I .i64 k),(26,I .i64 l.length),(25,.c (.sl 5 (l.map zlm))),(9,.own 5),(8,.ptr 1 0 0),(4,.ptr 0 0 0)],[(0,.blk 28 [I .i64 0,I .i64 0,.c (.v (.slice none 0 0)),.c (.v (.slice none 0 0)),.c (.v (.slice none 0 0)),.c (.v (.slice none 0 0)),.c (.v (.slice none 0 0)),I .i64 0,I .i64 0]),(1,.blk 200 (ya7 (za8 w (l.take k)).1 2 3 4)),(2,stR (za8 w (l.take k)).1),(3,miR (za8 w (l.take k)).1),(4,trR (za8 w (l.take k)).1),(5,.row 4 1 ((za8 w (l.take k)).2.map zet))],6⟩) (fun k:Nat=>k≤l.length) (fun k:Nat=>l.length-k) (0) (Nat.zero_le _) ((To.nil 9 4 1 rfl).trans (To.mk [1,5,2,3,4,6] rfl rfl (by decide) ?_ ?_)) ?_
   ·simp(etaStruct := .none)only[push_cast,zab,seval,List.take_zero,za8]
   ·simp(etaStruct := .none)only[push_cast,zab,seval]
   rintro k hk
   try refine xst ?_
   refine cI (fun h3 => ?_) fun h3 => ?_
   ·have hlt:k<l.length:=by omega
    obtain⟨d,hd⟩:∃d,d=l.getD k default:=⟨_,rfl⟩
    have hst:za8 w (l.take (k+1))=((zfi (za8 w (l.take k)).1 d).1,(za8 w (l.take k)).2 ++ [(zfi (za8 w (l.take k)).1 d).2]):=by rw[zaq _ _ hlt,←hd,zsx]
    have hR:=zkh (l.take k) hw
    have hbl:=zxi (l.take k) w
    rw[List.length_take]at hbl
    generalize (za8 w (l.take k)).1=W at *
    generalize (za8 w (l.take k)).2=bs at *
    try refine xz3 (gd hlt) hd.symm ydy ?_
    rcases z93 W d hR with M|M
    ·refine zfj [1,2,3,4] M (WkL.refl _) rfl (by decide) (by simp[zbu]) ?_
     try refine xz1 z10 ?_
     refine⟨k+1,by omega,by omega,To.mk [0,1,2,3,4,8] rfl rfl (by decide) ?_ ?_⟩
     ·(iterate 2((try simp(etaStruct := .none)only[push_cast,zab,seval,hst,List.map_append,zet]);(try(refine xsu ?_;try exact xtI))))
     ·(try(refine xst ?_;try exact xtI))
    ·refine zfj [1,2,3,4] M (WkL.refl _) rfl (by decide) (by simp[zbu]) ?_
     try refine xz1 z10 ?_
     refine⟨k+1,by omega,by omega,To.mk [0,1,2,3,7,9] rfl rfl (by decide) ?_ ?_⟩
     ·(iterate 2((try simp(etaStruct := .none)only[push_cast,zab,seval,hst,List.map_append,zet]);(try(refine xsu ?_;try exact xtI))))
     ·(try(refine xst ?_;try exact xtI))
   ·obtain rfl:k=l.length:=by omega
    iterate 2(try simp(etaStruct := .none)only[push_cast,zab,seval,List.take_length];try refine xsu ?_)
    exact xrz rfl
end Go.Proofs.YtmjbgbmegbkmhaaGreat
namespace Go.Proofs.YtmjbgbmegbkmhaaGreat
set_option linter.all false
open Go.RowKit
set_option maxRecDepth 100000
set_option maxHeartbeats 1000000
theorem z51 (o:Ord) (b:List Blw) (g:List Gop) (d:List Ded) (h:o.kind=1) (hb:b.length≤1000) :
 Spec Tryz.prog 87 [.ptr 0 0 0,zni o] [.blk 193 [.own 1,.own 2,.own 3],.row 261 2 (b.map zek),.row 263 3 (g.map zeh),.row 202 5 (d.map zlm)] (.tup [])
  [.blk 193 [.own 4,.own 2,.own 3],.dead,.row 263 3 (g.map zeh),.row 202 5 (d.map zlm),.row 261 2 ((b ++ [(⟨o.who,o.what⟩:Blw)]).map zek)]:=by
 refine spB Tryz.func87 84 [] Tryz.results87 ?_
 try refine xst ?_
 refine cI (fun h1 => ?_) fun h1 => ?_
 ·try refine xst ?_
  (try(refine⟨by kernel_rfl,?_⟩))
  try refine xst ?_
  refine zb6 [0,1,2,3,49] rfl rfl (by decide) ⟨?_,?_,?_,?_,?_,trivial⟩ trivial ?_
  ·simp(etaStruct := .none)only[push_cast,zab,seval]
  ·simp(etaStruct := .none)only[push_cast,zab,seval]
  ·simp(etaStruct := .none)only[push_cast,zab,seval]
  ·simp(etaStruct := .none)only[push_cast,zab,seval]
  ·simp(etaStruct := .none)only[push_cast,zab,seval,List.map_append,zek]
  ·simp(etaStruct := .none)only[push_cast,zab,seval]
 ·omega
theorem yeb (o:Ord) (b:List Blw) (g:List Gop) (d:List Ded) (h:o.kind=2) (hb:g.length≤1000) :
 Spec Tryz.prog 87 [.ptr 0 0 0,zni o] [.blk 193 [.own 1,.own 2,.own 3],.row 261 2 (b.map zek),.row 263 3 (g.map zeh),.row 202 5 (d.map zlm)] (.tup [])
  [.blk 193 [.own 1,.own 4,.own 3],.row 261 2 (b.map zek),.dead,.row 202 5 (d.map zlm),.row 263 3 ((g ++ [(⟨o.who,o.c⟩:Gop)]).map zeh)]:=by
 refine spB Tryz.func87 84 [] Tryz.results87 ?_
 try refine xst ?_
 refine cI (fun h1 => ?_) fun h1 => ?_
 ·omega
 ·try refine xst ?_
  refine cI (fun h2 => ?_) fun h2 => ?_
  ·try refine xst ?_
   (try(refine⟨by kernel_rfl,?_⟩))
   try refine xst ?_
   refine zb6 [0,1,2,3,49] rfl rfl (by decide) ⟨?_,?_,?_,?_,?_,trivial⟩ trivial ?_
   ·simp(etaStruct := .none)only[push_cast,zab,seval]
   ·simp(etaStruct := .none)only[push_cast,zab,seval]
   ·simp(etaStruct := .none)only[push_cast,zab,seval]
   ·simp(etaStruct := .none)only[push_cast,zab,seval]
   ·simp(etaStruct := .none)only[push_cast,zab,seval,List.map_append,zeh]
   ·simp(etaStruct := .none)only[push_cast,zab,seval]
  ·omega
theorem z5y (o:Ord) (b:List Blw) (g:List Gop) (d:List Ded) (h:o.kind=3) (hb:d.length≤1000) :
 Spec Tryz.prog 87 [.ptr 0 0 0,zni o] [.blk 193 [.own 1,.own 2,.own 3],.row 261 2 (b.map zek),.row 263 3 (g.map zeh),.row 202 5 (d.map zlm)] (.tup [])
  [.blk 193 [.own 1,.own 2,.own 4],.row 261 2 (b.map zek),.row 263 3 (g.map zeh),.dead,.row 202 5 ((d ++ [(⟨1,o.who,o.c,0⟩:Ded)]).map zlm)]:=by
 refine spB Tryz.func87 84 [] Tryz.results87 ?_
 try refine xst ?_
 refine cI (fun h1 => ?_) fun h1 => ?_
 ·omega
 ·try refine xst ?_
  refine cI (fun h2 => ?_) fun h2 => ?_
  ·omega
  ·try refine xst ?_
   refine cI (fun h3 => ?_) fun h3 => ?_
   ·try refine xst ?_
    (try(refine⟨by kernel_rfl,?_⟩))
    try refine xst ?_
    refine zb6 [0,1,2,3,49] rfl rfl (by decide) ⟨?_,?_,?_,?_,?_,trivial⟩ trivial ?_
    ·simp(etaStruct := .none)only[push_cast,zab,seval]
    ·simp(etaStruct := .none)only[push_cast,zab,seval]
    ·simp(etaStruct := .none)only[push_cast,zab,seval]
    ·simp(etaStruct := .none)only[push_cast,zab,seval]
    ·simp(etaStruct := .none)only[push_cast,zab,seval,List.map_append,zlm]
    ·simp(etaStruct := .none)only[push_cast,zab,seval]
   ·omega
theorem z50 (o:Ord) (b:List Blw) (g:List Gop) (d:List Ded) (h:o.kind=4) (hb:d.length≤1000) :
 Spec Tryz.prog 87 [.ptr 0 0 0,zni o] [.blk 193 [.own 1,.own 2,.own 3],.row 261 2 (b.map zek),.row 263 3 (g.map zeh),.row 202 5 (d.map zlm)] (.tup [])
  [.blk 193 [.own 1,.own 2,.own 4],.row 261 2 (b.map zek),.row 263 3 (g.map zeh),.dead,.row 202 5 ((d ++ [(⟨2,o.who,⟨0,0⟩,0⟩:Ded)]).map zlm)]:=by
 refine spB Tryz.func87 84 [] Tryz.results87 ?_
 try refine xst ?_
 refine cI (fun h1 => ?_) fun h1 => ?_
 ·omega
 ·try refine xst ?_
  refine cI (fun h2 => ?_) fun h2 => ?_
  ·omega
  ·try refine xst ?_
   refine cI (fun h3 => ?_) fun h3 => ?_
   ·omega
   ·try refine xst ?_
    refine cI (fun h4 => ?_) fun h4 => ?_
    ·try refine xst ?_
     (try(refine⟨by kernel_rfl,?_⟩))
     try refine xst ?_
     refine zb6 [0,1,2,3,41] rfl rfl (by decide) ⟨?_,?_,?_,?_,?_,trivial⟩ trivial ?_
     ·simp(etaStruct := .none)only[push_cast,zab,seval]
     ·simp(etaStruct := .none)only[push_cast,zab,seval]
     ·simp(etaStruct := .none)only[push_cast,zab,seval]
     ·simp(etaStruct := .none)only[push_cast,zab,seval]
     ·simp(etaStruct := .none)only[push_cast,zab,seval,List.map_append,zlm]
     ·simp(etaStruct := .none)only[push_cast,zab,seval]
    ·omega
theorem z5z (o:Ord) (b:List Blw) (g:List Gop) (d:List Ded) (h:o.kind=5) (hb:d.length≤1000) :
 Spec Tryz.prog 87 [.ptr 0 0 0,zni o] [.blk 193 [.own 1,.own 2,.own 3],.row 261 2 (b.map zek),.row 263 3 (g.map zeh),.row 202 5 (d.map zlm)] (.tup [])
  [.blk 193 [.own 1,.own 2,.own 4],.row 261 2 (b.map zek),.row 263 3 (g.map zeh),.dead,.row 202 5 ((d ++ [(⟨3,o.by_,⟨0,0⟩,o.what⟩:Ded)]).map zlm)]:=by
 refine spB Tryz.func87 84 [] Tryz.results87 ?_
 try refine xst ?_
 refine cI (fun h1 => ?_) fun h1 => ?_
 ·omega
 ·try refine xst ?_
  refine cI (fun h2 => ?_) fun h2 => ?_
  ·omega
  ·try refine xst ?_
   refine cI (fun h3 => ?_) fun h3 => ?_
   ·omega
   ·try refine xst ?_
    refine cI (fun h4 => ?_) fun h4 => ?_
    ·omega
    ·try refine xst ?_
     refine cI (fun h5 => ?_) fun h5 => ?_
     ·try refine xst ?_
      (try(refine⟨by kernel_rfl,?_⟩))
      try refine xst ?_
      refine zb6 [0,1,2,3,49] rfl rfl (by decide) ⟨?_,?_,?_,?_,?_,trivial⟩ trivial ?_
      ·simp(etaStruct := .none)only[push_cast,zab,seval]
      ·simp(etaStruct := .none)only[push_cast,zab,seval]
      ·simp(etaStruct := .none)only[push_cast,zab,seval]
      ·simp(etaStruct := .none)only[push_cast,zab,seval]
      ·simp(etaStruct := .none)only[push_cast,zab,seval,List.map_append,zlm]
      ·simp(etaStruct := .none)only[push_cast,zab,seval]
     ·omega
def OwnM (w:Wld) (k:Nat) (es:List (List Int × Int)):Prop:=(∀i:Int,zkv [i] es=(w.troops.take k).any fun t=>decide (t.id=i))∧∀j,j<k→zcw [(w.troops.getD j default).id] es=(w.troops.getD j default).owner
theorem OwnM.step {w:Wld} (hw:zao w=0) {k:Nat} {es:List (List Int × Int)} (h:OwnM w k es) (hk:k<w.troops.length):OwnM w (k+1) (zf4 [(w.troops.getD k default).id] (w.troops.getD k default).owner es):=by
 refine⟨fun i => ?_,fun j hj => ?_⟩
 ·rw[zku,zaq _ _ hk,List.any_append,h.1 i]
  simp only[List.any_cons,List.any_nil,Bool.or_false,List.cons.injEq,and_true]
  by_cases hi:i=(w.troops.getD k default).id
  ·rw[if_pos hi,decide_eq_true hi.symm,Bool.or_true]
  ·rw[if_neg hi,decide_eq_false (Ne.symm hi),Bool.or_false]
 ·rw[zb2]
  by_cases hjk:j=k
  ·subst hjk;rw[if_pos rfl]
  ·have h2:=(zew hw hk).2
   unfold z6b at h2
   rw[zom,Bool.and_eq_true]at h2
   have:=(za9 _ _).1 h2.1 j (by omega)
   rw[decide_eq_true_eq]at this
   rw[if_neg (fun h=>by have:=(List.cons.inj h).1;omega)]
   exact h.2 j (by omega)
theorem OwnM.find {w:Wld} {es:List (List Int × Int)} (h:OwnM w w.troops.length es) (i b:Int):(zkv [i] es&&decide (zcw [i] es=b))=match zc4 w i with|some t=>decide (t.owner=b)|none=>false:=by
 have h1:=h.1 i
 rw[List.take_length]at h1
 unfold zc4
 cases hf:w.troops.find? (fun t=>decide (t.id=i))with
 | none =>
  have:(w.troops.any fun t=>decide (t.id=i))=false:=by
   rw[List.any_eq_false];intro x hx;simpa using List.find?_eq_none.1 hf x hx
  rw[h1,this];rfl
 | some t =>
  have hm:=List.mem_of_find?_eq_some hf
  have hp:=List.find?_some hf
  rw[decide_eq_true_eq]at hp
  have:(w.troops.any fun t=>decide (t.id=i))=true:=by
   rw[List.any_eq_true];exact⟨t,hm,by simpa using hp⟩
  obtain⟨j,hj,rfl⟩:=List.getElem_of_mem hm
  have h2:=h.2 j hj
  rw[zad _ _ hj,hp]at h2
  rw[h1,this,h2];rfl
def zcd (l:List Ord) (w:Wld):Int:=if zc0 l≠0 then zc0 l else zao w
theorem zoo {o:Ord} (h:o.kind≠1):z2i o = []:=by unfold z2i;rw[if_neg h]
theorem zon {o:Ord} (h:o.kind≠2):z2h o = []:=by unfold z2h;rw[if_neg h]
theorem z2a {o:Ord} (h:¬2<o.kind):zvz o = []:=by unfold zvz;rw[if_neg h]
theorem yeh {o:Ord} (h:o.kind=1):z2i o = [⟨o.who,o.what⟩]:=by unfold z2i;rw[if_pos h]
theorem yed {o:Ord} (h:o.kind=2):z2h o = [⟨o.who,o.c⟩]:=by unfold z2h;rw[if_pos h]
theorem yeg {o:Ord} (ho:zef o=0) (h:o.kind=3):zvz o = [⟨1,o.who,o.c,0⟩]:=by
 have:=zey ho
 unfold zvz z5f;rw[if_pos (by omega),h,if_neg (by decide),this.2.2.2.2.2.2.2 (by omega) (by omega)];rfl
theorem yef {o:Ord} (ho:zef o=0) (h:o.kind=4):zvz o = [⟨2,o.who,⟨0,0⟩,0⟩]:=by
 have:=zey ho
 unfold zvz z5f;rw[if_pos (by omega),h,if_neg (by decide),this.2.2.2.2.2.2.2 (by omega) (by omega),this.2.2.2.2.2.2.1 (by omega) (by omega)];rfl
theorem yee {o:Ord} (ho:zef o=0) (h:o.kind=5):zvz o = [⟨3,o.by_,⟨0,0⟩,o.what⟩]:=by
 have:=zey ho
 unfold zvz z5f;rw[if_pos (by omega),h,if_pos rfl,this.2.2.2.2.2.2.1 (by omega) (by omega)];rfl
theorem zyi (l:List Ord) (w:Wld) (hll:l.length≤9223372036854775807) (hl:zfm w) (h:zcd l w≠0):Spec Tryz.prog 46 [.c (.sl 6 (l.map zdg)),zdf w] [] (.tup [.c (.v (.slice none 0 0)),.c (.v (.slice none 0 0)),.c (.v (.slice none 0 0)),I .i64 (zcd l w)]) []:=by
 refine spB Tryz.func46 82 [.tmp 4,.tmp 5,.tmp 6,.tmp 7] Tryz.results46 ?_
 try refine xst ?_
 refine caP (zue l hll) ?_
 try refine xst ?_
 refine cI (fun h1 => ?_) fun h1 => ?_
 ·have e:zcd l w=zc0 l:=by unfold zcd;rw[if_pos h1]
  try refine xst ?_
  (first|(refine zas rfl (Wk.of ?_);(try simp(etaStruct := .none)only[push_cast,zab,seval]);first|done|(simp[e, *];done)|(simp_all[e];done))|(refine zas rfl ?_;(try simp(etaStruct := .none)only[push_cast,zab,seval]);(try simp[e, *]);(try exact wkc)))
 ·try refine xst ?_
  refine caP (zd3 w hl) ?_
  try refine xst ?_
  refine cI (fun h2 => ?_) fun h2 => ?_
  ·have e:zcd l w=zao w:=by unfold zcd;rw[if_neg (by simpa using h1)]
   try refine xst ?_
   (first|(refine zas rfl (Wk.of ?_);(try simp(etaStruct := .none)only[push_cast,zab,seval]);first|done|(simp[e, *];done)|(simp_all[e];done))|(refine zas rfl ?_;(try simp(etaStruct := .none)only[push_cast,zab,seval]);(try simp[e, *]);(try exact wkc)))
  ·exact absurd (by unfold zcd;rw[if_neg (by simpa using h1)];exact h2) h
theorem zyh (l:List Ord) (w:Wld) (hll:l.length≤9223372036854775807) (hl:zfm w) (ho:zc0 l=0) (hw:zao w=0):Spec Tryz.prog 46 [.c (.sl 6 (l.map zdg)),zdf w] [] (.tup [.c (.sl 2 ((zco l w).map zek)),.c (.sl 3 ((zer l w).map zeh)),.c (.sl 5 ((zcb l w).map zlm)),I .i64 0]) []:=by
 obtain⟨ho1,ho2⟩:=zex ho
 obtain⟨w1,w2,w3,w4,w5⟩:=zc6 hw
 refine spB Tryz.func46 82 [.tmp 4,.tmp 5,.tmp 6,.tmp 7] Tryz.results46 ?_
 try refine xst ?_
 refine caP (zue l hll) ?_
 try refine xst ?_
 refine cI (fun h1 => ?_) fun h1 => ?_
 ·exact absurd ho h1
 ·try refine xst ?_
  refine caP (zd3 w hl) ?_
  try refine xst ?_
  refine cI (fun h2 => ?_) fun h2 => ?_
  ·exact absurd hw h2
  ·try refine xst ?_
   refine zay (fun x:Nat × List (List Int × Int)=>⟨[(32,I .i64 x.1),(31,I .i64 w.troops.length),(30,.c (.sl 7 (w.troops.map zat))),(10,.map 1),(3,.ptr 0 0 0),(0,.c (.sl 6 (l.map zdg)))],[(0,.blk 28 (zop w)),(1,.mp false 1 x.2)],2⟩) (fun x:Nat × List (List Int × Int)=>x.1≤w.troops.length∧OwnM w x.1 x.2) (fun x:Nat × List (List Int × Int)=>w.troops.length-x.1) ((0,[])) (⟨Nat.zero_le _,fun i=>rfl,fun j h=>absurd h (Nat.not_lt_zero _)⟩) (To.mk [0,1] rfl rfl (by decide) ?_ ?_) ?_
   ·simp(etaStruct := .none)only[push_cast,zab,seval]
   ·simp(etaStruct := .none)only[push_cast,zab,seval]
   rintro⟨k,es⟩ ⟨hk,hn⟩
   simp only at hk hn
   try refine xst ?_
   refine cI (fun h3 => ?_) fun h3 => ?_
   ·have hlt:k<w.troops.length:=by omega
    try refine xz2 (gd hlt) zbf ?_
    refine⟨(k+1,zf4 [(w.troops.getD k default).id] (w.troops.getD k default).owner es),⟨by simp only;omega,hn.step hw hlt⟩,by simp only;omega,To.mk [0,1] rfl rfl (by decide) ?_ ?_⟩
    ·(try(refine xz2 (gd hlt) zbf ?_;try exact xtI))
    ·(try(refine xz2 (gd hlt) zbf ?_;try exact xtI))
   ·obtain rfl:k=w.troops.length:=by omega
    have of:=hn.find
    try refine xst ?_
    refine zay (fun k:Nat=>⟨[(44,I .i64 k),(43,I .i64 l.length),(42,.c (.sl 6 (l.map zdg))),(13,.ptr 2 0 0),(10,.map 1),(3,.ptr 0 0 0)],[(0,.blk 28 (zop w)),(1,.mp false 1 es),(2,.blk 193 [.own 3,.own 4,.own 5]),(3,.row 261 2 ((zco (l.take k) w).map zek)),(4,.row 263 3 ((zer (l.take k) w).map zeh)),(5,.row 202 5 ((zcb (l.take k) w).map zlm))],6⟩) (fun k:Nat=>k≤l.length) (fun k:Nat=>l.length-k) (0) (Nat.zero_le _) (((To.nilC 2 0 261 2 193 _ rfl rfl).trans ((To.nilC 2 1 263 3 193 _ rfl rfl).trans (To.nilC 2 2 202 5 193 _ rfl rfl))).trans (To.mk [0,1,2,3,4,5] rfl rfl (by decide) ?_ ?_)) ?_
    ·simp(etaStruct := .none)only[push_cast,zab,seval,List.set_cons_zero,List.set_cons_succ,zco,zer,zcb,List.filter_nil,List.flatMap_nil]
    ·simp(etaStruct := .none)only[push_cast,zab,seval]
    rintro k hk
    try refine xst ?_
    refine cI (fun h4 => ?_) fun h4 => ?_
    ·have hlt:k<l.length:=by omega
     have hor:=ho2 _ (za1 l k hlt)
     have hok:=zey hor
     have st1:=zlc (fun o=>zde o w) z2i l k hlt
     have st2:=zlc (fun o=>zde o w) z2h l k hlt
     have st3:=zlc (fun o=>zde o w) zvz l k hlt
     have fl1:=ze8 (fun o=>zde o w) z2i zv0 (l.take k)
     have fl2:=ze8 (fun o=>zde o w) z2h zvx (l.take k)
     have fl3:=ze8 (fun o=>zde o w) zvz zvy (l.take k)
     rw[List.length_take]at fl1 fl2 fl3
     change zco (l.take (k+1)) w=zco (l.take k) w++_ at st1
     change zer (l.take (k+1)) w=zer (l.take k) w++_ at st2
     change zcb (l.take (k+1)) w=zcb (l.take k) w++_ at st3
     change (zco (l.take k) w).length≤_ at fl1
     change (zer (l.take k) w).length≤_ at fl2
     change (zcb (l.take k) w).length≤_ at fl3
     try refine xz2 (gd hlt) zbg ?_
     refine zmq (fun x:Int × Bool=>⟨[(44,I .i64 k),(43,I .i64 l.length),(42,.c (.sl 6 (l.map zdg))),(17,B x.2),(16,I .i64 x.1),(15,.ptr 6 0 0),(13,.ptr 2 0 0),(10,.map 1),(3,.ptr 0 0 0)],[(0,.blk 28 (zop w)),(1,.mp false 1 es),(2,.blk 193 [.own 3,.own 4,.own 5]),(3,.row 261 2 ((zco (l.take k) w).map zek)),(4,.row 263 3 ((zer (l.take k) w).map zeh)),(5,.row 202 5 ((zcb (l.take k) w).map zlm)),(6,.blk 48 [I .i64 (l.getD k default).by_,I .i64 (l.getD k default).kind,I .i64 (l.getD k default).who,I .i64 (l.getD k default).c.x,I .i64 (l.getD k default).c.y,I .i64 (l.getD k default).what])],7⟩) (fun x:Int × Bool=>(x.2&&decide (x.1=(l.getD k default).by_))=zde (l.getD k default) w) (fun h5 => ?_) (fun h5 => ?_) ?_
     ·(try replace h5:=xhh h5)
      try refine xz2 (gd hlt) zbg ?_
      (try(refine⟨by kernel_rfl,?_⟩))
      try refine xz2 (gd hlt) zbg ?_
      refine⟨((l.getD k default).by_,decide ((l.getD k default).by_<w.bases.length)),by unfold zde;rw[if_pos h5];simp,To.mk [0,1,2,3,4,5,6] rfl rfl (by decide) ?_ ?_⟩
      ·(try(refine xz2 (gd hlt) zbg ?_;try exact xtI))
      ·(try(refine xz2 (gd hlt) zbg ?_;try exact xtI))
     ·(try replace h5:=xhh h5)
      try refine xz2 (gd hlt) zbg ?_
      refine⟨(zcw [(l.getD k default).who] es,zkv [(l.getD k default).who] es),by rw[of];unfold zde;rw[if_neg h5];cases zc4 w (l.getD k default).who<;>rfl,To.mk [0,1,2,3,4,5,6] rfl rfl (by decide) ?_ ?_⟩
      ·(try(refine xz2 (gd hlt) zbg ?_;try exact xtI))
      ·(try(refine xz2 (gd hlt) zbg ?_;try exact xtI))
     ·rintro⟨by1,ok1⟩ hx
      simp only at hx
      try refine xz2 (gd hlt) zbg ?_
      refine cI (fun h6 => ?_) fun h6 => ?_
      ·have ha:zde (l.getD k default) w=true:=by rw[←hx];simp only[h6.1,h6.2,decide_true,Bool.and_self]
       rw[if_pos ha]at st1 st2 st3
       try refine xz2 (gd hlt) zbg ?_
       have hkind:(l.getD k default).kind=1∨(l.getD k default).kind=2∨(l.getD k default).kind=3∨(l.getD k default).kind=4∨(l.getD k default).kind=5:=by omega
       rcases hkind with h|h|h|h|h
       ·rw[yeh h]at st1;rw[zon (by omega)]at st2;rw[z2a (by omega)]at st3
        refine zfj [2,3,4,5] (z51 (l.getD k default) (zco (l.take k) w) (zer (l.take k) w) (zcb (l.take k) w) h (by omega)) (WkL.refl _) rfl (by decide) (by simp[zbu]) ?_
        try refine xz2 (gd hlt) zbg ?_
        refine⟨k+1,by omega,by omega,To.mk [0,1,2,7,4,5] rfl rfl (by decide) ?_ ?_⟩
        ·(iterate 2((try simp(etaStruct := .none)only[push_cast,zab,seval,st1,st2,st3,List.append_nil,List.map_append,zek]);(try(refine xsu ?_;try exact xtI))))
        ·(try(refine xst ?_;try exact xtI))
       ·rw[zoo (by omega)]at st1;rw[yed h]at st2;rw[z2a (by omega)]at st3
        refine zfj [2,3,4,5] (yeb (l.getD k default) (zco (l.take k) w) (zer (l.take k) w) (zcb (l.take k) w) h (by omega)) (WkL.refl _) rfl (by decide) (by simp[zbu]) ?_
        try refine xz2 (gd hlt) zbg ?_
        refine⟨k+1,by omega,by omega,To.mk [0,1,2,3,7,5] rfl rfl (by decide) ?_ ?_⟩
        ·(iterate 2((try simp(etaStruct := .none)only[push_cast,zab,seval,st1,st2,st3,List.append_nil,List.map_append,zeh]);(try(refine xsu ?_;try exact xtI))))
        ·(try(refine xst ?_;try exact xtI))
       ·rw[zoo (by omega)]at st1;rw[zon (by omega)]at st2;rw[yeg hor h]at st3
        refine zfj [2,3,4,5] (z5y (l.getD k default) (zco (l.take k) w) (zer (l.take k) w) (zcb (l.take k) w) h (by omega)) (WkL.refl _) rfl (by decide) (by simp[zbu]) ?_
        try refine xz2 (gd hlt) zbg ?_
        refine⟨k+1,by omega,by omega,To.mk [0,1,2,3,4,7] rfl rfl (by decide) ?_ ?_⟩
        ·(iterate 2((try simp(etaStruct := .none)only[push_cast,zab,seval,st1,st2,st3,List.append_nil,List.map_append,zlm]);(try(refine xsu ?_;try exact xtI))))
        ·(try(refine xst ?_;try exact xtI))
       ·rw[zoo (by omega)]at st1;rw[zon (by omega)]at st2;rw[yef hor h]at st3
        refine zfj [2,3,4,5] (z50 (l.getD k default) (zco (l.take k) w) (zer (l.take k) w) (zcb (l.take k) w) h (by omega)) (WkL.refl _) rfl (by decide) (by simp[zbu]) ?_
        try refine xz2 (gd hlt) zbg ?_
        refine⟨k+1,by omega,by omega,To.mk [0,1,2,3,4,7] rfl rfl (by decide) ?_ ?_⟩
        ·(iterate 2((try simp(etaStruct := .none)only[push_cast,zab,seval,st1,st2,st3,List.append_nil,List.map_append,zlm]);(try(refine xsu ?_;try exact xtI))))
        ·(try(refine xst ?_;try exact xtI))
       ·rw[zoo (by omega)]at st1;rw[zon (by omega)]at st2;rw[yee hor h]at st3
        refine zfj [2,3,4,5] (z5z (l.getD k default) (zco (l.take k) w) (zer (l.take k) w) (zcb (l.take k) w) h (by omega)) (WkL.refl _) rfl (by decide) (by simp[zbu]) ?_
        try refine xz2 (gd hlt) zbg ?_
        refine⟨k+1,by omega,by omega,To.mk [0,1,2,3,4,7] rfl rfl (by decide) ?_ ?_⟩
        ·(iterate 2((try simp(etaStruct := .none)only[push_cast,zab,seval,st1,st2,st3,List.append_nil,List.map_append,zlm]);(try(refine xsu ?_;try exact xtI))))
        ·(try(refine xst ?_;try exact xtI))
      ·have ha:zde (l.getD k default) w=false:=by
        rw[←hx]
        rcases h6 with h|h
        ·rw[h];rfl
        ·rw[decide_eq_false h,Bool.and_false]
       rw[ha]at st1 st2 st3
       simp only[Bool.false_eq_true,if_false,List.append_nil]at st1 st2 st3
       try refine xz2 (gd hlt) zbg ?_
       refine⟨k+1,by omega,by omega,To.mk [0,1,2,3,4,5] rfl rfl (by decide) ?_ ?_⟩
       ·(try(refine xz3 st1 st2 st3 ?_;try exact xtI))
       ·(try(refine xz2 (gd hlt) zbg ?_;try exact xtI))
    ·obtain rfl:k=l.length:=by omega
     iterate 2(try simp(etaStruct := .none)only[push_cast,zab,seval,List.take_length];try refine xsu ?_)
     (try(refine⟨by kernel_rfl,?_⟩))
     iterate 2(try simp(etaStruct := .none)only[push_cast,zab,seval,List.take_length];try refine xsu ?_)
     exact xrz rfl
end Go.Proofs.YtmjbgbmegbkmhaaGreat
namespace Go.Proofs.YtmjbgbmegbkmhaaGreat
set_option linter.all false
open Go.RowKit
set_option maxRecDepth 100000
theorem z1k (w:Wld) (d:Ded):(zfi w d).1.now=w.now:=by
 unfold zfi
 repeat' split
 all_goals rfl
theorem zxh (l:List Ded):∀w,(za8 w l).1.now=w.now:=by
 induction l with
 | nil=>intro w;rfl
 | cons a r ih=>intro w;rw[za8,ih,z1k]
def tkA (w:Wld) (l:List Ord):Wld:=zec w (zco l w)
def tkB (WR:Cel→List Int) (w:Wld) (l:List Ord):Wld:=z2e (tkA w l) (zgi w.f WR (zer l w) (tkA w l).troops).1
def tkC (WR:Cel→List Int) (w:Wld) (l:List Ord):Wld:=(za8 (tkB WR w l) (zcb l w)).1
def z34 (w:Wld):Wld:={ w with now:=w.now+1 }
def zev (WR:Cel→List Int) (w:Wld) (l:List Ord):Wld:=z34 (tkC WR w l)
def z7o (w:Wld) (l:List Ord):List Int:=z4w w (zco l w)
def z7n (WR:Cel→List Int) (w:Wld) (l:List Ord):List Int:=(zgi w.f WR (zer l w) (tkA w l).troops).2
def z7p (WR:Cel→List Int) (w:Wld) (l:List Ord):List Bool:=(za8 (tkB WR w l) (zcb l w)).2
def zbq (l:List Ord) (w:Wld):Int:=if zcd l w≠0 then zcd l w else if 1000000≤w.now then 6 else 0
theorem zem {l:List Ord} {w:Wld} (h:zcd l w=0):zc0 l=0∧zao w=0:=by
 have ho:zc0 l=0:=by
  unfold zcd at h
  split at h
  ·rename_i h1;exact absurd h h1
  ·rename_i h1;simpa using h1
 exact⟨ho,by unfold zcd at h;rwa [if_neg (by simp[ho])]at h⟩
theorem zv9 {l:List Ord} {w:Wld} (h:zc0 l=0):(zco l w).length≤100∧(zer l w).length≤100∧(zcb l w).length≤100:=by
 obtain⟨o1,o2⟩:=zex h
 have f1:=ze8 (fun o=>zde o w) z2i zv0 l
 have f2:=ze8 (fun o=>zde o w) z2h zvx l
 have f3:=ze8 (fun o=>zde o w) zvz zvy l
 change (zco l w).length≤_ at f1
 change (zer l w).length≤_ at f2
 change (zcb l w).length≤_ at f3
 omega
theorem zpk {w:Wld} (h:Right w) (l:List Ord):Right (tkA w l):=zpl h _ fun id=>(z0u w _ id).1
theorem zpj {w:Wld} (h:Right w) {WR:Cel→List Int} (hWR:∀a,zap w.f [a] (WR a)) (l:List Ord):Right (tkB WR w l):=znc (w:=tkA w l) (zpk h l) hWR _
theorem zpi {w:Wld} (h:Right w) {WR:Cel→List Int} (hWR:∀a,zap w.f [a] (WR a)) (l:List Ord):Right (tkC WR w l):=zkh _ (zpj h hWR l)
theorem zyd (WR:Cel→List Int) (w:Wld) (l:List Ord):(tkC WR w l).now=w.now:=by unfold tkC;rw[zxh];rfl
theorem zrw {w:Wld} (h:Right w) (hn:w.now<1000000):Right (z34 w):=by
 have:=h.nw
 refine⟨h.f,h.nb,h.nt,h.sl,h.ml,h.nx,?_,h.base,h.mine,fun k hk => ?_,h.ord⟩
 ·change 0≤w.now+1∧w.now+1≤1000000;omega
 ·have t:=h.trp k hk
  exact⟨t.kind,t.id,t.owner,t.at_,t.x,t.y,t.life,t.load⟩
theorem zia {w:Wld} (h:Right w) {WR:Cel→List Int} (hWR:∀a,zap w.f [a] (WR a)) (l:List Ord) (hn:w.now<1000000):Right (zev WR w l):=zrw (zpi h hWR l) (by rw[zyd];exact hn)
end Go.Proofs.YtmjbgbmegbkmhaaGreat
namespace Go.Proofs.YtmjbgbmegbkmhaaGreat
set_option linter.all false
open Go.RowKit
set_option maxRecDepth 100000
set_option maxHeartbeats 1000000
abbrev yeq (g m:List Int) (d:List Bool):AV := .agg [.c (.sl 1 (g.map zac)),.c (.sl 1 (m.map zac)),.c (.sl 1 (d.map zet))]
theorem z7q (w:Wld) (l:List Ord) (WR:Cel→List Int) (hWR:∀a,zap w.f [a] (WR a)) (hll:l.length≤9223372036854775807) (h:zbq l w=0):Spec Tryz.prog 14 [zdf w,.c (.sl 6 (l.map zdg))] [] (.tup [zdf (zev WR w l),yeq (z7o w l) (z7n WR w l) (z7p WR w l),I .i64 0]) []:=by
 have hs:zcd l w=0:=by unfold zbq at h;split at h;rename_i h1;exact absurd h h1;rename_i h1;simpa using h1
 have hn:w.now<1000000:=by unfold zbq at h;rw[if_neg (by simp[hs])]at h;split at h;exact absurd h (by decide);omega
 obtain⟨ho,hw⟩:=zem hs
 have R0:=zdm hw
 have RA:=zpk R0 l
 have RB:=zpj R0 hWR l
 have RC:=zpi R0 hWR l
 obtain⟨n1,n2,n3⟩:=zv9 (w:=w) ho
 have hnow:(tkC WR w l).now=w.now:=zyd WR w l
 have hnw:=R0.nw
 have e1:zbe w (zco l w)=0:=by unfold zbe;rw[if_neg (by simp[hw]),if_neg (by omega)]
 have HK:=zqi w (zco l w) R0.l (by omega) e1
 rw[e1,show zed w (zco l w)=tkA w l from by unfold zed;rw[if_pos e1];rfl,show zql w (zco l w)=z7o w l from by unfold zql;rw[if_pos e1];rfl]at HK
 have e2:zj7 (tkA w l) (zer l w)=0:=by unfold zj7;rw[if_neg (by simp[RA.e]),if_neg (by omega)]
 have MK:=z4b (tkA w l) (zer l w) WR hWR RA.l (by omega)
 rw[e2,if_pos rfl,if_pos rfl,show z2e (tkA w l) (zgi (tkA w l).f WR (zer l w) (tkA w l).troops).1=tkB WR w l from rfl,show (zgi (tkA w l).f WR (zer l w) (tkA w l).troops).2=z7n WR w l from rfl]at MK
 have DK:=yi9 (tkB WR w l) (zcb l w) RB (by omega)
 rw[show (za8 (tkB WR w l) (zcb l w)).1=tkC WR w l from rfl,show (za8 (tkB WR w l) (zcb l w)).2=z7p WR w l from rfl]at DK
 have hup:IntKind.i64.wrap ((tkC WR w l).now+1)=w.now+1:=by rw[hnow];exact zak _ (by omega) (by omega)
 have htv:zev WR w l = { tkC WR w l with now:=w.now+1 }:=by unfold zev z34;rw[hnow]
 rw[htv]
 refine spB Tryz.func14 62 [.cell 4 28,.cell 5 63,.tmp 6] Tryz.results14 ?_
 try refine xst ?_
 refine caP (zyh l w hll R0.l ho hw) ?_
 try refine xst ?_
 refine cI (fun h1 => ?_) fun h1 => ?_
 ·omega
 ·try refine xst ?_
  refine cI (fun h2 => ?_) fun h2 => ?_
  ·simp at h2
  ·iterate 2(try simp(etaStruct := .none)only[push_cast,zab,seval,hup];try refine xsu ?_)
   refine caP (HK) ?_
   iterate 2(try simp(etaStruct := .none)only[push_cast,zab,seval,hup];try refine xsu ?_)
   refine caP (MK) ?_
   iterate 2(try simp(etaStruct := .none)only[push_cast,zab,seval,hup];try refine xsu ?_)
   refine caP (DK) ?_
   iterate 2(try simp(etaStruct := .none)only[push_cast,zab,seval,hup];try refine xsu ?_)
   (try(refine⟨by kernel_rfl,?_⟩))
   iterate 2(try simp(etaStruct := .none)only[push_cast,zab,seval,hup];try refine xsu ?_)
   exact xrz rfl
theorem z7s (w:Wld) (l:List Ord) (hl:zfm w) (hll:l.length≤9223372036854775807) (h:zcd l w≠0):Spec Tryz.prog 14 [zdf w,.c (.sl 6 (l.map zdg))] [] (.tup [zdf default,yeq [] [] [],I .i64 (zcd l w)]) []:=by
 refine spB Tryz.func14 62 [.cell 4 28,.cell 5 63,.tmp 6] Tryz.results14 ?_
 try refine xst ?_
 refine caP (zyi l w hll hl h) ?_
 try refine xst ?_
 refine cI (fun h1 => ?_) fun h1 => ?_
 ·exact absurd h1.1 h
 ·try refine xst ?_
  refine cI (fun h2 => ?_) fun h2 => ?_
  ·try refine xst ?_
   exact xrz rfl
  ·exact absurd h2 h
theorem z7r (w:Wld) (l:List Ord) (hl:zfm w) (hll:l.length≤9223372036854775807) (hs:zcd l w=0) (hn:1000000≤w.now):Spec Tryz.prog 14 [zdf w,.c (.sl 6 (l.map zdg))] [] (.tup [zdf default,yeq [] [] [],I .i64 6]) []:=by
 obtain⟨ho,hw⟩:=zem hs
 refine spB Tryz.func14 62 [.cell 4 28,.cell 5 63,.tmp 6] Tryz.results14 ?_
 try refine xst ?_
 refine caP (zyh l w hll hl ho hw) ?_
 try refine xst ?_
 refine cI (fun h1 => ?_) fun h1 => ?_
 ·try refine xst ?_
  refine cI (fun h2 => ?_) fun h2 => ?_
  ·try refine xst ?_
   exact xrz rfl
  ·simp at h2
 ·omega
def zow (WR:Cel→List Int) (w:Wld) (l:List Ord):Wld:=if zbq l w=0 then zev WR w l else default
def z59 (w:Wld) (l:List Ord):List Int:=if zbq l w=0 then z7o w l else []
def z58 (WR:Cel→List Int) (w:Wld) (l:List Ord):List Int:=if zbq l w=0 then z7n WR w l else []
def z6a (WR:Cel→List Int) (w:Wld) (l:List Ord):List Bool:=if zbq l w=0 then z7p WR w l else []
theorem zrj (w:Wld) (l:List Ord) (WR:Cel→List Int) (hWR:∀a,zap w.f [a] (WR a)) (hl:zfm w) (hll:l.length≤9223372036854775807):Spec Tryz.prog 14 [zdf w,.c (.sl 6 (l.map zdg))] [] (.tup [zdf (zow WR w l),yeq (z59 w l) (z58 WR w l) (z6a WR w l),I .i64 (zbq l w)]) []:=by
 unfold zow z59 z58 z6a
 by_cases h:zbq l w=0
 ·rw[if_pos h,if_pos h,if_pos h,if_pos h,h];exact z7q w l WR hWR hll h
 ·rw[if_neg h,if_neg h,if_neg h,if_neg h]
  by_cases hs:zcd l w=0
  ·have hn:1000000≤w.now:=by
    unfold zbq at h;rw[if_neg (by simp[hs])]at h;split at h;assumption;exact absurd rfl h
   rw[show zbq l w=6 from by unfold zbq;rw[if_neg (by simp[hs]),if_pos hn]];exact z7r w l hl hll hs hn
  ·rw[show zbq l w=zcd l w from by unfold zbq;rw[if_pos hs]];exact z7s w l hl hll hs
end Go.Proofs.YtmjbgbmegbkmhaaGreat
namespace Go.Proofs.YtmjbgbmegbkmhaaGreat
set_option linter.all false
open Go.RowKit
theorem ztm {P:Program} {f:FuncId} (hf:zgn P f) (args:List AV) (r:AV) (v:Value) (hr:∀(U:Nat→Prop) (w:World) (F:Nat→Prop) (β : Nat→Option Bind),RelA U w F β r v)
 (h:∀(w:World) (F:Nat→Prop) (β : Nat→Option Bind) (vs:List Value),(∀b,F b→b<w.heap.size)→RelL (· < 0) w F β args vs→Calls P f vs.toArray w fun e w'=>e = .returned v∧Below w.heap.size w w'):Spec P f args [] r []:=by
 refine⟨hf,Nat.le_refl _,fun w F β vs M hv => ?_⟩
 refine(h w F β vs M.fin hv).mono ?_
 rintro e w' ⟨rfl,hb⟩
 obtain⟨S1,S2⟩:=M.step (w':=w') (h':=nth []) (β' := β) (F':=F) (U':=(· < 0)) (fun _=>False) (fun _ _=>rfl) (fun _ _=>rfl) hb.os hb.tape hb.output hb.size (fun b h _=>hb.block b h) (fun _ h=>h) (fun _ h=>h)
  (fun b h=>⟨Nat.lt_of_lt_of_le (M.fin b h) hb.size,.inl h⟩) (fun _ _ h=>h.elim) (fun _ _ h=>h.elim) (fun _ _ _ _ _ h=>h.elim) (fun _ _ h=>h.elim)
 exact⟨v,F,β,rfl,S1,hr _ _ _ _,fun _ h=>h,fun _ h => .inl h,fun _ _ _ h=>⟨_,h⟩⟩
theorem z8g {α : Type} {w:World} {F:Nat→Prop} {u:Value} (enc : α → Value) (xs:List α) (hF:∀b,F b→b<w.heap.size) (h:RelP w F (.sl 1 (xs.map fun x => [.v (enc x)])) u) :
 ∃a c,u = .slice a xs.length c∧xs.length≤c∧c≤maxLen∧Els w w.heap.size a 1 (fun x => [enc x]) xs:=by
 simp only[RelP]at h
 obtain⟨a,c,rfl,h1,h2,h3⟩:=h
 rw[List.length_map]at h1
 refine⟨a,c,by rw[List.length_map],h1,h2,?_⟩
 rcases h3 with h3|⟨b,o,rfl,hb,hE⟩
 ·exact .inl (by simpa using h3)
 ·refine .inr ⟨b,o,rfl,hF b hb,fun i j v hv => ?_⟩
  cases hx:xs[i]? with
  | none=>rw[hx]at hv;simp at hv
  | some x =>
   rw[hx]at hv
   cases j with
   | succ j=>simp at hv
   | zero =>
    have hv':enc x=v:=by simpa using hv
    obtain⟨_,hc⟩:=RelE.at hE i [.v (enc x)] (by simp[hx])
    obtain⟨u,hu,hr⟩:=RelC.at hc 0 _ rfl
    simp only[RelP]at hr
    rw[←hv',←hr.1,←hu];rfl
theorem ztz {w:World} {U F:Nat→Prop} {β : Nat→Option Bind} {p:PV} {vs:List Value} (h:RelL U w F β [.c p] vs):∃u,vs = [u]∧RelP w F p u:=by
 simp only[RelL,RelA]at h
 obtain⟨u,us,rfl,h1,rfl⟩:=h
 exact⟨u,rfl,h1⟩
end Go.Proofs.YtmjbgbmegbkmhaaGreat
namespace Go.Proofs.YtmjbgbmegbkmhaaGreat
set_option linter.all false
open Go.RowKit
set_option maxRecDepth 100000
set_option maxHeartbeats 1000000
theorem ydb (s:ByteArray) (hs:s.size≤140737488351232):Spec Tryz.prog 119 [S s] [] (.c (.v (.int .u64 (z0c s:Nat)))) [] :=
 zhh (zi7 Tryz.func119 rfl rfl) [.string s] _ rfl fun w=>(z4n s w hs).mono fun e w' ⟨h1,h2⟩=>⟨h1,h2▸Below.refl _ _⟩
theorem zwn {s:ByteArray} {n:Int} {U:Nat→Prop} {w:World} {F:Nat→Prop} {β : Nat→Option Bind} : RelA U w F β (.tup [S s,I .i64 n]) (.tuple #[.string s,.int .i64 n]):=by
 simp only[RelA]
 refine⟨_,rfl,?_⟩
 simp[RelL,RelA,RelP,Value.oneCell']
theorem zt3 (xs:List Int) (hx:∀x∈xs,I64 x) (hl:xs.length≤140737488351232):Spec Tryz.prog 62 [.c (.sl 1 (xs.map zac))] [] (.tup [S (paR xs).1,I .i64 (paR xs).2]) [] :=
 ztm (zi7 Tryz.func62 rfl rfl) _ _ (.tuple #[.string (paR xs).1,.int .i64 (paR xs).2]) (fun _ _ _ _=>zwn) fun w F β vs hF hv=>by
  obtain⟨u,rfl,hu⟩:=ztz hv
  obtain⟨a,c,rfl,_,_,hE⟩:=z8g (fun n:Int=>Value.int .i64 n) xs hF hu
  exact zwq a c w.heap.size xs w hE hx hl (Nat.le_refl _)
theorem z86 (m n:Nat) (hm:m<18446744073709551616):Spec Tryz.prog 151 [.c (.v (.int .u64 m)),.c (.v (.int .u64 n))] [] (.c (.v (.int .u64 (m ^^^ mx n:Nat)))) [] :=
 zhh (zi7 Tryz.func151 rfl rfl) [.int .u64 m,.int .u64 n] _ rfl fun w=>(z2s m n hm w).mono fun e w' h=>⟨h.1,h.2▸Below.refl _ _⟩
theorem yc3 (m:Nat):mk m []=m:=rfl
theorem mkl (l:List Nat) (m:Nat) (k:Nat) (h:k<l.length):mk m (l.take (k+1))=mk m (l.take k) ^^^ mx (l.getD k default):=by rw[zaq l k h,z89]
theorem yc5 (l:List Nat) (hl:l.length≤1000000):Spec Tryz.prog 120 [.c (.sl 1 [[.sl 1 (l.map zlp)]])] [] (.c (.v (.int .u64 (mk 0 l:Nat)))) []:=by
 refine spB Tryz.func120 26 [.tmp 2] Tryz.results120 ?_
 try refine xst ?_
 refine zay (fun k:Nat=>⟨[(10,I .i64 k),(9,I .i64 1),(8,.c (.sl 1 [[.sl 1 (l.map zlp)]])),(3,.c (.v (.int .u64 ((if k=0 then 0 else mk 0 l:Nat):Int))))],[],0⟩) (fun k:Nat=>k≤1) (fun k:Nat=>1-k) (0) (Nat.zero_le _) (To.mk [] rfl rfl List.nodup_nil trivial ?_) ?_
 ·simp(etaStruct := .none)only[push_cast,zab,seval,if_pos trivial]
 rintro k hk
 try refine xst ?_
 refine cI (fun h1 => ?_) fun h1 => ?_
 ·obtain rfl:k=0:=by omega
  try refine xst ?_
  refine zay (fun k:Nat=>⟨[(16,I .i64 k),(15,I .i64 l.length),(14,.c (.sl 1 (l.map zlp))),(10,I .i64 0),(9,I .i64 1),(8,.c (.sl 1 [[.sl 1 (l.map zlp)]])),(3,.c (.v (.int .u64 (mk 0 (l.take k):Nat))))],[],0⟩) (fun k:Nat=>k≤l.length) (fun k:Nat=>l.length-k) (0) (Nat.zero_le _) (To.mk [] rfl rfl List.nodup_nil trivial ?_) ?_
  ·simp(etaStruct := .none)only[push_cast,zab,seval,List.take_zero,yc3]
  rintro k hk
  try refine xst ?_
  refine cI (fun h2 => ?_) fun h2 => ?_
  ·have hlt:k<l.length:=by omega
   have ml:=mkl l 0 k hlt
   try refine xz2 (gd hlt) z57 ?_
   refine caP (z86 (mk 0 (l.take k)) (l.getD k default) (ygu _ 0 (by decide))) ?_
   try refine xz2 (gd hlt) z57 ?_
   refine⟨k+1,by omega,by omega,To.mk [] rfl rfl List.nodup_nil trivial ?_⟩
   ·(try(refine xz1 ml ?_;try exact xtI))
  ·obtain rfl:k=l.length:=by omega
   iterate 2(try simp(etaStruct := .none)only[push_cast,zab,seval,List.take_length];try refine xsu ?_)
   refine⟨1,by omega,by omega,To.mk [] rfl rfl List.nodup_nil trivial ?_⟩
   ·(iterate 2((try simp(etaStruct := .none)only[push_cast,zab,seval,if_neg (show ¬(1:Nat)=0 by decide),Int.zero_add]);(try(refine xsu ?_;try exact xtI))))
 ·obtain rfl:k=1:=by omega
  try refine xst ?_
  exact xrz rfl
theorem ygt (l:List Nat) (hl:l.length≤1000000):Spec Tryz.prog 70 [.c (.sl 1 (l.map zlp))] [] (.c (.v (.int .u64 (mk 0 l:Nat)))) []:=by
 refine spB Tryz.func70 6 [.tmp 2] Tryz.results70 ?_
 try refine xst ?_
 refine zcl (yc5 l hl) (WkL.refl _) rfl ?_
 try refine xst ?_
 exact xrz rfl
def zjb (l:List Int):Nat:=z0c (paR l).1
theorem z3r (l:List Int):(paR l).1.size≤20000:=by
 unfold paR
 split
 ·show 0≤20000;omega
 ·show ByteArray.size ⟨(paK l l.length).toArray⟩≤20000
  rw[zok];have:=zko l l.length;omega
theorem zm2 (l:List Int) (hx:∀x∈l,I64 x) (hl:l.length≤1000000):Spec Tryz.prog 69 [.c (.sl 1 (l.map zac))] [] (.c (.v (.int .u64 (zjb l:Nat)))) []:=by
 have:=z3r l
 refine spB Tryz.func69 12 [.tmp 2] Tryz.results69 ?_
 try refine xst ?_
 refine caP (zt3 l hx (by omega)) ?_
 try refine xst ?_
 refine caP (ydb (paR l).1 (by omega)) ?_
 try refine xst ?_
 (first|(refine zas rfl (Wk.of ?_);(try simp(etaStruct := .none)only[push_cast,zab,seval]);first|done|(simp[zjb, *];done)|(simp_all[zjb];done))|(refine zas rfl ?_;(try simp(etaStruct := .none)only[push_cast,zab,seval]);(try simp[zjb, *]);(try exact wkc)))
def hdI (w:Wld):List Int := [1,w.f.w,w.f.h,w.next,w.now]++w.f.p
def yaw (w:Wld) (i:Nat):List Int := [2,(i:Int),(w.bases.getD i default).x,(w.bases.getD i default).y,w.stocks.getD i default]
def z9b (w:Wld) (i:Nat):List Int := [3,(i:Int),w.mines.getD i default]
def z7v (w:Wld) (i:Nat):List Int := [4,(w.troops.getD i default).id,(w.troops.getD i default).owner,(w.troops.getD i default).kind,(w.troops.getD i default).c.x,(w.troops.getD i default).c.y,(w.troops.getD i default).life,(w.troops.getD i default).load]
def wl1 (w:Wld) (k:Nat):List Nat:=zjb (hdI w)::(List.range k).map fun i=>zjb (yaw w i)
def wl2 (w:Wld) (k:Nat):List Nat:=wl1 w w.bases.length++(List.range k).flatMap fun i=>if w.mines.getD i default=0 then []else [zjb (z9b w i)]
def wl3 (w:Wld) (k:Nat):List Nat:=wl2 w w.mines.length++(List.range k).map fun i=>zjb (z7v w i)
theorem yey (w:Wld):wl1 w 0 = [zjb (hdI w)]:=rfl
theorem ybm (w:Wld):wl2 w 0=wl1 w w.bases.length:=by simp[wl2]
theorem yew (w:Wld):wl3 w 0=wl2 w w.mines.length:=by simp[wl3]
theorem yex (w:Wld) (k:Nat):wl1 w (k+1)=wl1 w k ++ [zjb (yaw w k)]:=by simp[wl1,List.range_succ]
theorem ybl (w:Wld) (k:Nat):wl2 w (k+1)=wl2 w k++(if w.mines.getD k default=0 then []else [zjb (z9b w k)]):=by
 unfold wl2;rw[List.range_succ,List.flatMap_append,←List.append_assoc];congr 1;exact List.flatMap_singleton ..
theorem yev (w:Wld) (k:Nat):wl3 w (k+1)=wl3 w k ++ [zjb (z7v w k)]:=by simp[wl3,List.range_succ]
theorem zxy (w:Wld):∀k,(wl1 w k).length=k+1:=by intro k;simp[wl1]
theorem zre (w:Wld):∀k,(wl2 w k).length≤w.bases.length+1+k
 | 0=>by rw[ybm,zxy];omega
 | k+1=>by
  have:=zre w k
  rw[ybl,List.length_append];split<;>simp<;>omega
theorem zxx (w:Wld) (k:Nat):(wl3 w k).length≤w.bases.length+1+w.mines.length+k:=by
 have:=zre w w.mines.length
 unfold wl3;rw[List.length_append,List.length_map,List.length_range];omega
def ziz (w:Wld):Nat:=mk 0 (wl3 w w.troops.length)
theorem zjw {w:Wld} (h:zao w=0):(1≤w.f.w∧w.f.w≤40)∧(1≤w.f.h∧w.f.h≤40)∧(w.f.p.length≤1600∧∀p∈w.f.p,0≤p∧p<4)∧w.bases.length≤8∧w.troops.length≤100∧w.stocks.length=w.bases.length∧w.mines.length=w.f.p.length∧(1≤w.next∧w.next≤1000000)∧(0≤w.now∧w.now≤1000000) ∧
 (∀k,k<w.bases.length→(0≤(w.bases.getD k default).x∧(w.bases.getD k default).x≤39)∧(0≤(w.bases.getD k default).y∧(w.bases.getD k default).y≤39)∧0≤w.stocks.getD k default∧w.stocks.getD k default≤1000000) ∧
 (∀k,k<w.mines.length→0≤w.mines.getD k default∧w.mines.getD k default≤1000000):=by
 obtain⟨h1,h2,h3,h4,h5⟩:=zc6 h
 obtain⟨g1,g2,g3,g4⟩:=zbh h1
 obtain⟨f1,f2,f3,f4⟩:=zjx h4
 have hm2:w.f.w*w.f.h≤40*40:=Int.mul_le_mul g1.2 g2.2 (by omega) (by omega)
 unfold zhb at h5
 simp only[Bool.and_eq_true]at h5
 refine⟨g1,g2,⟨by omega,g4⟩,h2,h3,f1,f2,f3,f4,fun k hk => ?_,fun k hk => ?_⟩
 ·have:=(za9 _ _).1 h5.1.1 k hk
  unfold zl0 at this
  simp only[Bool.and_eq_true,within_iff]at this
  have hi:=inF_iff.1 (ground_iff.1 this.1.1).1
  omega
 ·have:=(za9 _ _).1 h5.1.2 k hk
  unfold zlr at this
  simp only[Bool.and_eq_true,within_iff]at this
  omega
theorem ydn {w:Wld} (h:zao w=0):(∀x∈hdI w,I64 x)∧(hdI w).length≤1000000:=by
 obtain⟨b1,b2,b3,b4,b5,b6,b7,b8,b9,b10,b11⟩:=zjw h
 refine⟨fun x hx => ?_,by simp[hdI];omega⟩
 simp only[hdI,List.mem_append,List.mem_cons,List.not_mem_nil,or_false]at hx
 unfold I64
 rcases hx with (rfl|rfl|rfl|rfl|rfl)|hx
 ·omega
 ·omega
 ·omega
 ·omega
 ·omega
 ·have:=b3.2 x hx;omega
theorem yav {w:Wld} (h:zao w=0) {k:Nat} (hk:k<w.bases.length):(∀x∈yaw w k,I64 x)∧(yaw w k).length≤1000000:=by
 obtain⟨b1,b2,b3,b4,b5,b6,b7,b8,b9,b10,b11⟩:=zjw h
 have:=b10 k hk
 refine⟨fun x hx => ?_,by simp[yaw]⟩
 simp only[yaw,List.mem_cons,List.not_mem_nil,or_false]at hx
 unfold I64
 rcases hx with rfl|rfl|rfl|rfl|rfl<;>omega
theorem z9a {w:Wld} (h:zao w=0) {k:Nat} (hk:k<w.mines.length):(∀x∈z9b w k,I64 x)∧(z9b w k).length≤1000000:=by
 obtain⟨b1,b2,b3,b4,b5,b6,b7,b8,b9,b10,b11⟩:=zjw h
 have:=b11 k hk
 refine⟨fun x hx => ?_,by simp[z9b]⟩
 simp only[z9b,List.mem_cons,List.not_mem_nil,or_false]at hx
 unfold I64
 rcases hx with rfl|rfl|rfl<;>omega
theorem z4p {k:Int} : (zba k).life≤20:=by unfold zba;split;decide;split<;>decide
theorem z7u {w:Wld} (h:zao w=0) {k:Nat} (hk:k<w.troops.length):(∀x∈z7v w k,I64 x)∧(z7v w k).length≤1000000:=by
 obtain⟨b1,b2,b3,b4,b5,b6,b7,b8,b9,b10,b11⟩:=zjw h
 obtain⟨t1,t2,t3,t4,t5,t6,t7,t8⟩:=(zew h hk).1
 have kl := @z4p (w.troops.getD k default).kind
 refine⟨fun x hx => ?_,by simp[z7v]⟩
 simp only[z7v,List.mem_cons,List.not_mem_nil,or_false]at hx
 unfold I64
 rcases hx with rfl|rfl|rfl|rfl|rfl|rfl|rfl|rfl<;>omega
theorem zya (w:Wld) (hl:zfm w) (hw:zao w=0):Spec Tryz.prog 25 [zdf w] [] (.tup [.c (.v (.int .u64 (ziz w:Nat))),I .i64 0]) []:=by
 obtain⟨b1,b2,b3,b4,b5,b6,b7,b8,b9,b10,b11⟩:=zjw hw
 have h0:=ydn hw
 refine spB Tryz.func25 107 [.tmp 2,.tmp 3] Tryz.results25 ?_
 try refine xst ?_
 refine caP (zd3 w hl) ?_
 try refine xst ?_
 refine cI (fun h1 => ?_) fun h1 => ?_
 ·exact absurd hw h1
 ·try refine xst ?_
  refine zcl (zm2 (hdI w) h0.1 h0.2) (WkL.refl _) rfl ?_
  try refine xst ?_
  refine zay (fun k:Nat=>⟨[(37,I .i64 k),(36,I .i64 w.bases.length),(35,.c (.sl 2 (w.bases.map za6))),(5,.own 1),(1,.ptr 0 0 0)],[(0,.blk 28 (zop w)),(1,.row 96 1 ((wl1 w k).map zlp))],2⟩) (fun k:Nat=>k≤w.bases.length) (fun k:Nat=>w.bases.length-k) (0) (Nat.zero_le _) (To.mk [0,3] rfl rfl (by decide) ?_ ?_) ?_
  ·simp(etaStruct := .none)only[push_cast,zab,seval,yey,zlp]
  ·simp(etaStruct := .none)only[push_cast,zab,seval]
  rintro k hk
  try refine xst ?_
  refine cI (fun h2 => ?_) fun h2 => ?_
  ·have hlt:k<w.bases.length:=by omega
   have hlt2:k<w.stocks.length:=by omega
   have ok:=yav hw hlt
   have ln:=zxy w k
   try refine xz4 (gd hlt) (gd hlt2) zcu za4 ?_
   refine zcl (zm2 (yaw w k) ok.1 ok.2) (WkL.refl _) rfl ?_
   try refine xz4 (gd hlt) (gd hlt2) zcu za4 ?_
   (try(refine⟨by kernel_rfl,?_⟩))
   try refine xz4 (gd hlt) (gd hlt2) zcu za4 ?_
   refine⟨k+1,by omega,by omega,To.mk [0,59] rfl rfl (by decide) ?_ ?_⟩
   ·(iterate 2((try simp(etaStruct := .none)only[push_cast,zab,seval,yex,List.map_append,zlp]);(try(refine xsu ?_;try exact xtI))))
   ·(try(refine xz4 (gd hlt) (gd hlt2) zcu za4 ?_;try exact xtI))
  ·obtain rfl:k=w.bases.length:=by omega
   try refine xst ?_
   refine zay (fun k:Nat=>⟨[(61,I .i64 k),(60,I .i64 w.mines.length),(59,.c (.sl 1 (w.mines.map zac))),(5,.own 1),(1,.ptr 0 0 0)],[(0,.blk 28 (zop w)),(1,.row 96 1 ((wl2 w k).map zlp))],2⟩) (fun k:Nat=>k≤w.mines.length) (fun k:Nat=>w.mines.length-k) (0) (Nat.zero_le _) (To.mk [0,1] rfl rfl (by decide) ?_ ?_) ?_
   ·simp(etaStruct := .none)only[push_cast,zab,seval,ybm]
   ·simp(etaStruct := .none)only[push_cast,zab,seval]
   rintro k hk
   try refine xst ?_
   refine cI (fun h3 => ?_) fun h3 => ?_
   ·have hlt:k<w.mines.length:=by omega
    have ok:=z9a hw hlt
    have ln:=zre w k
    have bm:=b11 k hlt
    have st:=ybl w k
    try refine xz2 (gd hlt) za4 ?_
    refine cI (fun h4 => ?_) fun h4 => ?_
    ·rw[if_neg (by omega)]at st
     try refine xz2 (gd hlt) za4 ?_
     refine zcl (zm2 (z9b w k) ok.1 ok.2) (WkL.refl _) rfl ?_
     try refine xz2 (gd hlt) za4 ?_
     refine⟨k+1,by omega,by omega,To.mk [0,4] rfl rfl (by decide) ?_ ?_⟩
     ·(iterate 2((try simp(etaStruct := .none)only[push_cast,zab,seval,st,List.map_append,zlp]);(try(refine xsu ?_;try exact xtI))))
     ·(try(refine xz2 (gd hlt) za4 ?_;try exact xtI))
    ·rw[if_pos (by omega),List.append_nil]at st
     try refine xz2 (gd hlt) za4 ?_
     refine⟨k+1,by omega,by omega,To.mk [0,1] rfl rfl (by decide) ?_ ?_⟩
     ·(try(refine xz1 st ?_;try exact xtI))
     ·(try(refine xz2 (gd hlt) za4 ?_;try exact xtI))
   ·obtain rfl:k=w.mines.length:=by omega
    try refine xst ?_
    refine zay (fun k:Nat=>⟨[(79,I .i64 k),(78,I .i64 w.troops.length),(77,.c (.sl 7 (w.troops.map zat))),(5,.own 0)],[(0,.row 96 1 ((wl3 w k).map zlp))],1⟩) (fun k:Nat=>k≤w.troops.length) (fun k:Nat=>w.troops.length-k) (0) (Nat.zero_le _) (To.mk [1] rfl rfl (by decide) ?_ ?_) ?_
    ·simp(etaStruct := .none)only[push_cast,zab,seval,yew]
    ·simp(etaStruct := .none)only[push_cast,zab,seval]
    rintro k hk
    try refine xst ?_
    refine cI (fun h5 => ?_) fun h5 => ?_
    ·have hlt:k<w.troops.length:=by omega
     have ok:=z7u hw hlt
     have ln:=zxx w k
     try refine xz2 (gd hlt) zbf ?_
     refine zcl (zm2 (z7v w k) ok.1 ok.2) (WkL.refl _) rfl ?_
     try refine xz2 (gd hlt) zbf ?_
     refine⟨k+1,by omega,by omega,To.mk [4] rfl rfl (by decide) ?_ ?_⟩
     ·(iterate 2((try simp(etaStruct := .none)only[push_cast,zab,seval,yev,List.map_append,zlp]);(try(refine xsu ?_;try exact xtI))))
     ·(try(refine xz2 (gd hlt) zbf ?_;try exact xtI))
    ·obtain rfl:k=w.troops.length:=by omega
     have ln:=zxx w w.troops.length
     try refine xst ?_
     refine zcl (ygt (wl3 w w.troops.length) (by omega)) (WkL.refl _) rfl ?_
     try refine xst ?_
     (first|(refine zas rfl (Wk.of ?_);(try simp(etaStruct := .none)only[push_cast,zab,seval]);first|done|(simp[ziz, *];done)|(simp_all[ziz];done))|(refine zas rfl ?_;(try simp(etaStruct := .none)only[push_cast,zab,seval]);(try simp[ziz, *]);(try exact wkc)))
def zdp (l:List Ord):List PV := [.sl 6 (l.map zdg)]
theorem zee (l:List Ord):zdp l = [.sl 6 (l.map zdg)]:=rfl
def zgb (WR:Cel→List Int):List (List Ord)→Wld→Wld
 | [],w=>w
 | o::r,w=>zgb WR r (zev WR w o)
def zxr (WR:Cel→List Int):List (List Ord)→Wld→List Nat
 | [],w => [ziz w]
 | o::r,w=>ziz w::zxr WR r (zev WR w o)
def zg8 (WR:Cel→List Int):List (List Ord)→Wld→Int
 | [],_=>0
 | o::r,w=>if zbq o w≠0 then zbq o w else zg8 WR r (zev WR w o)
theorem yae (w:Wld) (d:Ded):(zfi w d).1.f=w.f:=by
 unfold zfi
 repeat' split
 all_goals rfl
theorem z5e (l:List Ded):∀w,(za8 w l).1.f=w.f:=by
 induction l with
 | nil=>intro w;rfl
 | cons a r ih=>intro w;rw[za8,ih,yae]
theorem zri (WR:Cel→List Int) (w:Wld) (o:List Ord):(zev WR w o).f=w.f:=by
 unfold zev z34 tkC;rw[show ({ (za8 (tkB WR w o) (zcb o w)).1 with now:=(za8 (tkB WR w o) (zcb o w)).1.now+1 } : Wld).f=(za8 (tkB WR w o) (zcb o w)).1.f from rfl,z5e];rfl
theorem zyv (WR:Cel→List Int):∀(l:List (List Ord)) (w:Wld),(zgb WR l w).f=w.f
 | [],_=>rfl
 | o::r,w=>by rw[zgb,zyv WR r,zri]
theorem zpf (WR:Cel→List Int) (o:List Ord):∀(l:List (List Ord)) (w:Wld),zgb WR (l ++ [o]) w=zev WR (zgb WR l w) o
 | [],_=>rfl
 | a::r,w=>by rw[List.cons_append,zgb,zpf WR o r];rfl
theorem zpg (WR:Cel→List Int) (o:List Ord):∀(l:List (List Ord)) (w:Wld),zxr WR (l ++ [o]) w=zxr WR l w ++ [ziz (zev WR (zgb WR l w) o)]
 | [],_=>rfl
 | a::r,w=>by rw[List.cons_append,zxr,zpg WR o r];rfl
theorem zjk (WR:Cel→List Int) (b:List (List Ord)):∀(a:List (List Ord)) (w:Wld),zg8 WR (a++b) w=if zg8 WR a w≠0 then zg8 WR a w else zg8 WR b (zgb WR a w)
 | [],w=>by simp[zg8,zgb]
 | o::r,w=>by
  rw[List.cons_append,zg8,zg8,zjk WR b r,zgb]
  by_cases h:zbq o w≠0
  ·rw[if_pos h,if_pos h,if_pos h]
  ·rw[if_neg h,if_neg h]
theorem ztu (WR:Cel→List Int):∀(l:List (List Ord)) (w:Wld),(zxr WR l w).length=l.length+1
 | [],_=>rfl
 | o::r,w=>by rw[zxr,List.length_cons,ztu WR r,List.length_cons]
theorem zm0 {w:Wld} {l:List Ord} (h:zbq l w=0):Right w∧w.now<1000000:=by
 have hs:zcd l w=0:=by unfold zbq at h;split at h;rename_i h1;exact absurd h h1;rename_i h1;simpa using h1
 have hn:w.now<1000000:=by unfold zbq at h;rw[if_neg (by simp[hs])]at h;split at h;exact absurd h (by decide);omega
 exact⟨zdm (zem hs).2,hn⟩
theorem zkg {WR:Cel→List Int} : ∀(l:List (List Ord)) {w:Wld},Right w→(∀a,zap w.f [a] (WR a))→zg8 WR l w=0→Right (zgb WR l w)
 | [],_,h,_,_=>h
 | o::r,w,h,hWR,he=>by
  rw[zg8]at he
  split at he
  ·rename_i h1;exact absurd he h1
  ·rename_i h1
   have h1:zbq o w=0:=by simpa using h1
   exact zkg r (zia h hWR o (zm0 h1).2) (by intro a;rw[zri];exact hWR a) he
theorem z3d {WR:Cel→List Int} {ts:List (List Ord)} {w:Wld} {k:Nat} (hk:k<ts.length) (h:zg8 WR (ts.take k) w=0):(zbq (ts.getD k default) (zgb WR (ts.take k) w)≠0→zg8 WR ts w=zbq (ts.getD k default) (zgb WR (ts.take k) w))∧(zbq (ts.getD k default) (zgb WR (ts.take k) w)=0→zg8 WR (ts.take (k+1)) w=0):=by
 have e1:=zaq ts k hk
 constructor
 ·intro hn
  have e2:ts=ts.take k++ts.drop k:=(List.take_append_drop k ts).symm
  have e3:ts.drop k=ts.getD k default::ts.drop (k+1):=by rw[zad _ _ hk];exact List.drop_eq_getElem_cons hk
  rw[show zg8 WR ts w=zg8 WR (ts.take k++ts.drop k) w from by rw[←e2],zjk,if_neg (by simp[h]),e3,zg8,if_pos hn]
 ·intro h0
  rw[e1,zjk,if_neg (fun hn=>hn h),zg8,if_neg (fun hn=>hn h0)];rfl
theorem zv7 {w:Wld} (h:Right w):zec w []=w:=by
 have e:zdi w []=id:=by funext t;unfold zdi;rw[zu1];simp
 unfold zec zhs
 rw[e,List.map_id,List.filter_eq_self.2]
 intro t ht
 obtain⟨i,hi,rfl⟩:=List.mem_iff_getElem.1 ht
 have:=(h.trp i hi).life
 rw[zad _ _ hi]at this
 simp;omega
abbrev ybj:List AV := [I .i64 0,I .i64 0,.c (.v (.slice none 0 0)),.c (.v (.slice none 0 0)),.c (.v (.slice none 0 0)),.c (.v (.slice none 0 0)),.c (.v (.slice none 0 0)),I .i64 0,I .i64 0]
theorem ybt (w:Wld) (ts:List (List Ord)) (WR:Cel→List Int) (hWR:∀a,zap w.f [a] (WR a)) (hts:ts.length≤200) (hin:∀l∈ts,l.length≤9223372036854775807) (hw:Right w):Spec Tryz.prog 26 [zdf w,.c (.sl 1 (ts.map zdp))] [] (.tup [zdf (if zg8 WR ts w=0 then zgb WR ts w else default),.c (.sl 1 ((if zg8 WR ts w=0 then zxr WR ts w else []).map zlp)),I .i64 (zg8 WR ts w)]) []:=by
 have e1:zbe w []=0:=by unfold zbe;rw[if_neg (by simp[hw.e]),if_neg (by simp)]
 have HK:=zqi w [] hw.l (by simp) e1
 rw[e1,show zed w []=w from by unfold zed;rw[if_pos e1,zv7 hw]]at HK
 obtain⟨E,hE⟩:∃E,E=zg8 WR ts w:=⟨_,rfl⟩
 rw[←hE]
 refine spB Tryz.func26 64 [.cell 4 28,.tmp 5,.tmp 6] Tryz.results26 ?_
 try refine xst ?_
 refine cI (fun h1 => ?_) fun h1 => ?_
 ·omega
 ·try refine xst ?_
  refine zdz (HK) (by exact⟨Wk.refl _,Wk.nil _,trivial⟩) ?_
  try refine xst ?_
  refine cI (fun h2 => ?_) fun h2 => ?_
  ·simp at h2
  ·try refine xst ?_
   refine caP (zya w hw.l hw.e) ?_
   try refine xst ?_
   refine zay (fun k:Nat=>⟨[(37,I .i64 k),(36,I .i64 ts.length),(35,.c (.sl 1 (ts.map zdp))),(11,.own 2),(4,.ptr 1 0 0),(2,.ptr 0 0 0)],[(0,.blk 28 (zop (zgb WR (ts.take k) w))),(1,.blk 28 ybj),(2,.row 96 1 ((zxr WR (ts.take k) w).map zlp))],3⟩) (fun k:Nat=>k≤ts.length∧zg8 WR (ts.take k) w=0) (fun k:Nat=>ts.length-k) (0) (⟨Nat.zero_le _,rfl⟩) (To.mk [0,1,2] rfl rfl (by decide) ?_ ?_) ?_
   ·simp(etaStruct := .none)only[push_cast,zab,seval,List.take_zero,zgb,zxr,List.map_cons,List.map_nil,zlp]
   ·simp(etaStruct := .none)only[push_cast,zab,seval]
   rintro k ⟨hk,hn⟩
   try refine xst ?_
   refine cI (fun h3 => ?_) fun h3 => ?_
   ·have hlt:k<ts.length:=by omega
    have RK:=zkg (ts.take k) hw hWR hn
    have hWk:∀a,zap (zgb WR (ts.take k) w).f [a] (WR a):=by intro a;rw[zyv];exact hWR a
    obtain⟨st1,st2⟩:=z3d hlt hn
    have T:=zrj (zgb WR (ts.take k) w) (ts.getD k default) WR hWk RK.l (hin _ (za1 _ _ hlt))
    try refine xz2 (gd hlt) zee ?_
    refine caP (T) ?_
    try refine xz2 (gd hlt) zee ?_
    refine cI (fun h4 => ?_) fun h4 => ?_
    ·have hE2:=hE.trans (st1 h4)
     rw[if_neg (by rw[hE2];exact h4),if_neg (by rw[hE2];exact h4),hE2]
     try refine xz2 (gd hlt) zee ?_
     exact xrz rfl
    ·have e0:zbq (ts.getD k default) (zgb WR (ts.take k) w)=0:=by simpa using h4
     have hWv:zow WR (zgb WR (ts.take k) w) (ts.getD k default)=zev WR (zgb WR (ts.take k) w) (ts.getD k default):=if_pos e0
     have RV:Right (zow WR (zgb WR (ts.take k) w) (ts.getD k default)):=by rw[hWv];exact zia RK hWk _ (zm0 e0).2
     have hW1:zgb WR (ts.take (k+1)) w=zow WR (zgb WR (ts.take k) w) (ts.getD k default):=by rw[zaq ts k hlt,zpf,hWv]
     have hM1:zxr WR (ts.take (k+1)) w=zxr WR (ts.take k) w ++ [ziz (zow WR (zgb WR (ts.take k) w) (ts.getD k default))]:=by rw[zaq ts k hlt,zpg,hWv]
     have hml:=ztu WR (ts.take k) w
     rw[List.length_take]at hml
     try refine xz2 (gd hlt) zee ?_
     refine caP (zya _ RV.l RV.e) ?_
     try refine xz2 (gd hlt) zee ?_
     refine⟨k+1,⟨by omega,st2 e0⟩,by omega,To.mk [0,1,4] rfl rfl (by decide) ?_ ?_⟩
     ·(iterate 2((try simp(etaStruct := .none)only[push_cast,zab,seval,hW1,hM1,List.map_append,List.map_cons,List.map_nil,zlp]);(try(refine xsu ?_;try exact xtI))))
     ·(try(refine xz2 (gd hlt) zee ?_;try exact xtI))
   ·obtain rfl:k=ts.length:=by omega
    rw[List.take_length]at hn
    have hE0:E=0:=hE.trans hn
    rw[if_pos hE0,if_pos hE0,hE0]
    iterate 2(try simp(etaStruct := .none)only[push_cast,zab,seval,List.take_length];try refine xsu ?_)
    exact xrz rfl
def zdx (WR:Cel→List Int) (ts:List (List Ord)) (w:Wld):Int:=if 200<ts.length then 2 else if zao w≠0 then zao w else zg8 WR ts w
def zgt (WR:Cel→List Int) (ts:List (List Ord)) (w:Wld):Wld:=if zdx WR ts w=0 then zgb WR ts w else default
def ycb (WR:Cel→List Int) (ts:List (List Ord)) (w:Wld):List Nat:=if zdx WR ts w=0 then zxr WR ts w else []
theorem ybs (w:Wld) (ts:List (List Ord)) (h:200<ts.length):Spec Tryz.prog 26 [zdf w,.c (.sl 1 (ts.map zdp))] [] (.tup [zdf default,.c (.sl 1 (([]:List Nat).map zlp)),I .i64 2]) []:=by
 refine spB Tryz.func26 64 [.cell 4 28,.tmp 5,.tmp 6] Tryz.results26 ?_
 try refine xst ?_
 refine cI (fun h1 => ?_) fun h1 => ?_
 ·try refine xst ?_
  exact xrz rfl
 ·omega
theorem ybr (w:Wld) (ts:List (List Ord)) (hl:zfm w) (h:ts.length≤200) (hw:zao w≠0):Spec Tryz.prog 26 [zdf w,.c (.sl 1 (ts.map zdp))] [] (.tup [zdf default,.c (.sl 1 (([]:List Nat).map zlp)),I .i64 (zao w)]) []:=by
 have e1:zbe w []=zao w:=by unfold zbe;rw[if_pos hw]
 have HK:=z0m w [] hl (by simp) (by rw[e1];exact hw)
 rw[e1]at HK
 refine spB Tryz.func26 64 [.cell 4 28,.tmp 5,.tmp 6] Tryz.results26 ?_
 try refine xst ?_
 refine cI (fun h1 => ?_) fun h1 => ?_
 ·omega
 ·try refine xst ?_
  refine zdz (HK) (by exact⟨Wk.refl _,Wk.nil _,trivial⟩) ?_
  try refine xst ?_
  refine cI (fun h2 => ?_) fun h2 => ?_
  ·try refine xst ?_
   exact xrz rfl
  ·exact absurd h2 hw
theorem zj2 (w:Wld) (ts:List (List Ord)) (WR:Cel→List Int) (hWR:∀a,zap w.f [a] (WR a)) (hl:zfm w) (hin:∀l∈ts,l.length≤9223372036854775807):Spec Tryz.prog 26 [zdf w,.c (.sl 1 (ts.map zdp))] [] (.tup [zdf (zgt WR ts w),.c (.sl 1 ((ycb WR ts w).map zlp)),I .i64 (zdx WR ts w)]) []:=by
 unfold zgt ycb
 obtain⟨E,hE⟩:∃E,E=zdx WR ts w:=⟨_,rfl⟩
 rw[←hE]
 unfold zdx at hE
 by_cases h:200<ts.length
 ·rw[if_pos h]at hE;subst hE;exact ybs w ts h
 ·rw[if_neg h]at hE
  by_cases hw:zao w=0
  ·rw[if_neg (fun hn=>hn hw)]at hE;subst hE;exact ybt w ts WR hWR (by omega) hin (zdm hw)
  ·rw[if_pos hw]at hE;subst hE;rw[if_neg hw,if_neg hw];exact ybr w ts hl (by omega) hw
theorem zhj {WR:Cel→List Int} {ts:List (List Ord)} {w:Wld} (h:zdx WR ts w=0):ts.length≤200∧Right w∧zg8 WR ts w=0:=by
 unfold zdx at h
 split at h
 ·exact absurd h (by decide)
 ·split at h
  ·rename_i h1;exact absurd h h1
  ·rename_i h1;exact⟨by omega,zdm (Decidable.not_not.1 h1),h⟩
theorem ybi:zfm (default:Wld):=⟨Nat.zero_le _,Nat.zero_le _,Nat.zero_le _,Nat.zero_le _,Nat.zero_le _⟩
structure Sty where
 start:Wld
 turns:List (List Ord)
 deriving DecidableEq, Inhabited
abbrev yix (s:Sty):List AV := [I .i64 s.start.f.w,I .i64 s.start.f.h,.c (.sl 1 (s.start.f.p.map zac)),.c (.sl 2 (s.start.bases.map za6)),.c (.sl 1 (s.start.stocks.map zac)),.c (.sl 1 (s.start.mines.map zac)),.c (.sl 7 (s.start.troops.map zat)),I .i64 s.start.next,I .i64 s.start.now,.c (.sl 1 (s.turns.map zdp))]
abbrev ygd:List AV := [I .i64 0,I .i64 0,.c (.v (.slice none 0 0)),.c (.v (.slice none 0 0)),.c (.v (.slice none 0 0)),.c (.v (.slice none 0 0)),.c (.v (.slice none 0 0)),I .i64 0,I .i64 0,.c (.v (.slice none 0 0))]
abbrev ygc (s:Sty):AV := .agg (yix s)
structure StyL (s : Sty) : Prop where
 w:zfm s.start
 t:∀l∈s.turns,l.length≤9223372036854775807
 n:s.turns.length≤9223372036854775807
abbrev zrr (WR:Cel→List Int) (s:Sty):Int:=zdx WR s.turns s.start
theorem z7d {WR:Cel→List Int} {ts:List (List Ord)} {w:Wld} (hWR:∀a,zap w.f [a] (WR a)) (h:zdx WR ts w=0):zgt WR ts w=zgb WR ts w∧Right (zgt WR ts w)∧∀a,zap (zgt WR ts w).f [a] (WR a):=by
 have e:zgt WR ts w=zgb WR ts w:=if_pos h
 obtain⟨_,h2,h3⟩:=zhj h
 rw[e]
 exact⟨rfl,zkg ts h2 hWR h3,fun a=>by rw[zyv];exact hWR a⟩
theorem zys (s:Sty) (WR:Cel→List Int) (hWR:∀a,zap s.start.f [a] (WR a)) (hl:StyL s):Spec Tryz.prog 68 [ygc s] [] (I .i64 (zrr WR s)) []:=by
 have T:=zj2 s.start s.turns WR hWR hl.w hl.t
 refine spB Tryz.func68 16 [.tmp 2] Tryz.results68 ?_
 try refine xst ?_
 refine caP (T) ?_
 try refine xst ?_
 exact xrz rfl
def zff (WR:Cel→List Int) (s:Sty) (l:List Ord):Int:=if zrr WR s≠0 then zrr WR s else if 199<s.turns.length then 6 else zbq l (zgt WR s.turns s.start)
def zge (WR:Cel→List Int) (s:Sty) (l:List Ord):Sty:=if zff WR s l=0 then ⟨s.start,s.turns ++ [l]⟩else default
theorem zkf {WR:Cel→List Int} : ∀(ts:List (List Ord)) {w:Wld},zg8 WR ts w=0→∀l∈ts,l.length≤100
 | [],_,_,l,hl=>by simp at hl
 | o::r,w,h,l,hl=>by
  rw[zg8]at h
  split at h
  ·rename_i h1;exact absurd h h1
  ·rename_i h1
   have h1:zbq o w=0:=Decidable.not_not.1 h1
   rcases List.mem_cons.1 hl with rfl|hl
   ·have hs:zcd l w=0:=by unfold zbq at h1;split at h1;rename_i h2;exact absurd h1 h2;rename_i h2;simpa using h2
    exact(zex (zem hs).1).1
   ·exact zkf r h l hl
theorem z77 (s:Sty) (l:List Ord) (WR:Cel→List Int) (hWR:∀a,zap s.start.f [a] (WR a)) (hl:StyL s) (hll:l.length≤9223372036854775807):Spec Tryz.prog 78 [ygc s,.c (.sl 6 (l.map zdg))] [] (.tup [ygc (zge WR s l),I .i64 (zff WR s l)]) []:=by
 have T:=zj2 s.start s.turns WR hWR hl.w hl.t
 have hn:=hl.n
 refine spB Tryz.func78 79 [.cell 4 32,.tmp 5] Tryz.results78 ?_
 try refine xst ?_
 refine caP (T) ?_
 try refine xst ?_
 refine cI (fun h1 => ?_) fun h1 => ?_
 ·have e:zff WR s l=zrr WR s:=if_pos h1
  have e2:zge WR s l=default:=if_neg (by rw[e];exact h1)
  rw[e,e2]
  try refine xst ?_
  exact xrz rfl
 ·obtain⟨r1,r2,r3⟩:=z7d hWR h1
  obtain⟨k1,k2,k3⟩:=zhj h1
  try refine xst ?_
  refine cI (fun h2 => ?_) fun h2 => ?_
  ·have e:zff WR s l=6:=by unfold zff;rw[if_neg (fun hn=>hn h1),if_pos (by omega)]
   have e2:zge WR s l=default:=if_neg (by rw[e];decide)
   rw[e,e2]
   try refine xst ?_
   exact xrz rfl
  ·have e:zff WR s l=zbq l (zgt WR s.turns s.start):=by unfold zff;rw[if_neg (fun hn=>hn h1),if_neg (by omega)]
   have U:=zrj (zgt WR s.turns s.start) l WR r3 r2.l hll
   try refine xst ?_
   refine caP (U) ?_
   try refine xst ?_
   refine cI (fun h3 => ?_) fun h3 => ?_
   ·have e2:zge WR s l=default:=if_neg (by rw[e];exact h3)
    rw[e,e2]
    try refine xst ?_
    exact xrz rfl
   ·have e2:zge WR s l=⟨s.start,s.turns ++ [l]⟩:=if_pos (by rw[e];exact h3)
    rw[e,e2,h3]
    have V:=zj2 s.start [] WR hWR hl.w (fun _ h=>by simp at h)
    have hl1:l.length≤100:=by
     have hs:zcd l (zgt WR s.turns s.start)=0:=by unfold zbq at h3;split at h3;rename_i h1;exact absurd h3 h1;rename_i h1;simpa using h1
     exact(zex (zem hs).1).1
    have v0:zdx WR [] s.start=0:=by unfold zdx;rw[if_neg (by simp),if_neg (fun hn=>hn k2.e)];rfl
    rw[v0,show zgt WR [] s.start=s.start from if_pos v0]at V
    try refine xst ?_
    refine zdz (V) (by exact⟨Wk.refl _,Wk.nil _,trivial⟩) ?_
    try refine xst ?_
    refine zay (fun k:Nat=>⟨[(59,I .i64 k),(58,I .i64 s.turns.length),(57,.c (.sl 1 (s.turns.map zdp))),(15,.ptr 1 0 0),(4,.ptr 0 0 0),(1,.c (.sl 6 (l.map zdg)))],[(0,.blk 32 ygd),(1,.blk 32 [I .i64 s.start.f.w,I .i64 s.start.f.h,.c (.sl 1 (s.start.f.p.map zac)),.c (.sl 2 (s.start.bases.map za6)),.c (.sl 1 (s.start.stocks.map zac)),.c (.sl 1 (s.start.mines.map zac)),.c (.sl 7 (s.start.troops.map zat)),I .i64 s.start.next,I .i64 s.start.now,.own 2]),(2,.row 53 1 ((s.turns.take k).map zdp))],3⟩) (fun k:Nat=>k≤s.turns.length) (fun k:Nat=>s.turns.length-k) (0) (Nat.zero_le _) ((To.nilC 6 9 53 1 32 _ rfl rfl).trans (To.mk [1,6,7] rfl rfl (by decide) ?_ ?_)) ?_
    ·simp(etaStruct := .none)only[push_cast,zab,seval,List.set_cons_zero,List.set_cons_succ,List.take_zero,List.map_nil]
    ·simp(etaStruct := .none)only[push_cast,zab,seval]
    rintro k hk
    try refine xst ?_
    refine cI (fun h4 => ?_) fun h4 => ?_
    ·have hlt:k<s.turns.length:=by omega
     have hk1:=zkf s.turns k3 (s.turns.getD k default) (za1 _ _ hlt)
     have htk:=zaq s.turns k hlt
     try refine xz2 (gd hlt) zee ?_
     refine caP (zhp (s.turns.getD k default) (by omega)) ?_
     try refine xz2 (gd hlt) zee ?_
     (try(refine⟨by kernel_rfl,?_⟩))
     try refine xz2 (gd hlt) zee ?_
     refine⟨k+1,by omega,by omega,To.mk [0,1,23] rfl rfl (by decide) ?_ ?_⟩
     ·(iterate 2((try simp(etaStruct := .none)only[push_cast,zab,seval,htk,List.map_append,List.map_cons,List.map_nil,zdp]);(try(refine xsu ?_;try exact xtI))))
     ·(try(refine xz2 (gd hlt) zee ?_;try exact xtI))
    ·obtain rfl:k=s.turns.length:=by omega
     iterate 2(try simp(etaStruct := .none)only[push_cast,zab,seval,List.take_length,List.map_append,List.map_cons,List.map_nil,zdp];try refine xsu ?_)
     refine caP (zhp l (by omega)) ?_
     iterate 2(try simp(etaStruct := .none)only[push_cast,zab,seval,List.take_length,List.map_append,List.map_cons,List.map_nil,zdp];try refine xsu ?_)
     (try(refine⟨by kernel_rfl,?_⟩))
     iterate 2(try simp(etaStruct := .none)only[push_cast,zab,seval,List.take_length,List.map_append,List.map_cons,List.map_nil,zdp];try refine xsu ?_)
     have hq:(s.turns ++ [l]).map zdp=s.turns.map zdp ++ [[.sl 6 (l.map zdg)]]:=by rw[List.map_append];rfl
     refine zcj rfl (by repeat' (first|exact trivial|exact rfl|refine⟨?_,?_⟩)) (Wk.of ?_)
     show _=AV.tup [.agg [I .i64 s.start.f.w,I .i64 s.start.f.h,.c (.sl 1 (s.start.f.p.map zac)),.c (.sl 2 (s.start.bases.map za6)),.c (.sl 1 (s.start.stocks.map zac)),.c (.sl 1 (s.start.mines.map zac)),.c (.sl 7 (s.start.troops.map zat)),I .i64 s.start.next,I .i64 s.start.now,.c (.sl 1 ((s.turns ++ [l]).map zdp))],I .i64 0]
     rw[hq]
     first|rfl|kernel_rfl
theorem z6f:StyL default:=⟨ybi,fun l (h:l∈([]:List (List Ord)))=>by simp at h,Nat.zero_le _⟩
theorem z88 (s:Sty) (l:List Ord) (WR:Cel→List Int) (hl:StyL s) (hll:l.length≤9223372036854775807):StyL (zge WR s l):=by
 unfold zge
 split
 ·rename_i h
  have hE:zrr WR s=0:=Decidable.byContradiction fun hn=>by
   unfold zff at h;rw[if_pos hn]at h;exact hn h
  have hn:=(zhj hE).1
  refine⟨hl.w,fun x hx => ?_,by simp;omega⟩
  rcases List.mem_append.1 hx with hx|hx
  ·exact hl.t x hx
  ·rw[List.mem_singleton]at hx;rw[hx];exact hll
 ·exact z6f
end Go.Proofs.YtmjbgbmegbkmhaaGreat
