/- Lemmas for the proof of topWire.proved. -/
import Derived.Test.YtmjbgbmegbkmhaaGreatTWi6
namespace Go.Proofs.YtmjbgbmegbkmhaaGreat
set_option linter.all false
open Go.RowKit
set_option maxRecDepth 100000
set_option maxHeartbeats 2000000
def yct (f:Fld) (c:Cel):Nat:=if inF f c=true then zar f c else 0
theorem zji {f:Fld} {c:Cel} (h:inF f c=true):yct f c=zar f c:=if_pos h
theorem z2r {f:Fld} (hf:zb7 f=0) (c:Cel):yct f c<f.p.length:=by
 have hfo:=zbs hf
 unfold yct
 split
 ·rename_i h
  have:=zby hf h
  unfold zar;omega
 ·have h1:0<f.w*f.h:=Int.mul_pos (by omega) (by omega)
  omega
theorem zlj (f:Fld) (b:Cel) (far:List Int) (q:List Nod) (c:Cel) (hf:zb7 f=0) (hc:(zda f c).2=true):Spec Tryz.prog 163 [.fel 7 [yj4 f b far q] 0 0,zhv c] [] (I .i64 (yct f c)) []:=by
 have hin:inF f c=true:=by
  cases hi:inF f c with
  | true=>rfl
  | false=>unfold zda at hc;rw[hi]at hc;simp at hc
 rw[zji hin];exact zes f b far q c hf hin
theorem zk8 (c:Cel) (k:Nat) (hk:k<4):List.take 2 (List.drop (k*2) ([I .i64 c.x,I .i64 (c.y-1),I .i64 (c.x-1),I .i64 c.y,I .i64 (c.x+1),I .i64 c.y,I .i64 c.x,I .i64 (c.y+1)]:List AV)) = [I .i64 ((zal c).getD k default).x,I .i64 ((zal c).getD k default).y]:=by
 have:k=0∨k=1∨k=2∨k=3:=by omega
 rcases this with rfl|rfl|rfl|rfl<;>rfl
theorem z0p {f:Fld} {c:Cel} (hf:zb7 f=0) (hc:inF f c=true) (k:Nat) (hk:k<4):(-1000≤((zal c).getD k default).x∧((zal c).getD k default).x≤1000) ∧ -1000≤((zal c).getD k default).y∧((zal c).getD k default).y≤1000:=by
 have h1:=inF_iff.1 hc
 have h2:=zbs hf
 have:k=0∨k=1∨k=2∨k=3:=by omega
 rcases this with rfl|rfl|rfl|rfl<;>simp only[zal,List.getD_cons_zero,List.getD_cons_succ]<;>omega
theorem ya9 {f:Fld} {b:Cel} {fr:List Int} {m:List Nod} (h:0<m.length∧(fr.getD (zar f b) default<0∨(m.getD 0 default).all≤fr.getD (zar f b) default)) (M:Nat):zle f b (M+1) fr m=if 0≤fr.getD (zar f (m.getD 0 default).c) default then zle f b M fr (zf6 Nod.all m)
 else zle f b M (fr.set (zar f (m.getD 0 default).c) (m.getD 0 default).far) (ze6 f b (fr.set (zar f (m.getD 0 default).c) (m.getD 0 default).far) (m.getD 0 default).far (zf6 Nod.all m) (zal (m.getD 0 default).c)):=by
 rw[zle,if_pos h]
theorem ya8 {f:Fld} {b:Cel} {fr:List Int} {m:List Nod} (h:¬(0<m.length∧(fr.getD (zar f b) default<0∨(m.getD 0 default).all≤fr.getD (zar f b) default))) (M:Nat):zle f b M fr m=(fr,m):=by
 cases M with
 | zero=>rfl
 | succ M=>rw[zle,if_neg h]
theorem z9j (f:Fld) (b:Cel) {W H:Nat} (hw:f.w=(W:Int)) (hh:f.h=(H:Int)) (hW:0<W) (hf:zb7 f=0) (hL:f.p.length=W*H) (hb:inF f b=true) (a N:Nat) (far:List Int) (q:List Nod) (hA:As W f.p a (fun n=>zbm b (zd8 W n)) far q (fun _ _=>True)) (hm:muS f far q≤N) (hN:N≤100000):Spec Tryz.prog 180 [.ptr 0 0 0] [.blk 300 [I .i64 f.w,I .i64 f.h,.c (.sl 1 (f.p.map zae)),I .i64 b.x,I .i64 b.y,.own 1,.own 2],.row 3 1 (far.map zae),.row 327 4 (q.map zb6)] (.tup []) [.blk 300 [I .i64 f.w,I .i64 f.h,.c (.sl 1 (f.p.map zae)),I .i64 b.x,I .i64 b.y,.own 1,.own 3],.row 3 1 ((zle f b N far q).1.map zae),.dead,.row 327 4 ((zle f b N far q).2.map zb6)]:=by
 have hbW:zar f b<f.p.length:=(zbp hw hh hW hf hb).2
 have hbi:=inF_iff.1 hb
 have hfo:=zbs hf
 have hpl:=(zby hf hb).2.2.2.2
 refine spB Tryz.func180 108 [] Tryz.results180 ?_
 (iterate 2((try simp(etaStruct := .none)only[push_cast,seval]);(try(refine xsu ?_;try exact xtI))))
 refine zcw (zes f b far q b hf hb) (WkL.refl _) rfl ?_
 (iterate 2((try simp(etaStruct := .none)only[push_cast,seval]);(try(refine xsu ?_;try exact xtI))))
 refine za3 (fun x:Nat × List Int × List Nod=>⟨[(2,I .i64 (zar f b)),(0,.ptr 0 0 0)],[(0,.blk 300 [I .i64 f.w,I .i64 f.h,.c (.sl 1 (f.p.map zae)),I .i64 b.x,I .i64 b.y,.own 1,.own 3]),(1,.row 3 1 (x.2.1.map zae)),(2,.dead),(3,.row 327 4 (x.2.2.map zb6))],4⟩) (fun x:Nat × List Int × List Nod=>As W f.p a (fun n=>zbm b (zd8 W n)) x.2.1 x.2.2 (fun _ _=>True)∧muS f x.2.1 x.2.2≤x.1∧x.1≤N∧zle f b x.1 x.2.1 x.2.2=zle f b N far q) (fun x:Nat × List Int × List Nod=>x.1) ((N,far,q)) (⟨hA,hm,Nat.le_refl _,rfl⟩) ((To.moveC 0 6 2 327 4 300 _ (q.map zb6) rfl rfl rfl).trans (To.mk [0,1,2,3] rfl rfl (by decide) ?_ ?_)) ?_
 ·simp(etaStruct := .none)only[push_cast,zab,seval,List.set_cons_zero,List.set_cons_succ]
 ·simp(etaStruct := .none)only[push_cast,zab,seval]
 rintro⟨M,fr,m⟩ ⟨hA,hm,hMN,hu⟩
 simp only at hA hm hMN hu
 have hbF:zar f b<fr.length:=by rw[hA.len];exact hbW
 rcases Nat.eq_zero_or_pos m.length with hz|hz
 ·obtain rfl:=List.length_eq_zero_iff.1 hz
  have e:zle f b M fr []=(fr,[]):=by
   cases M with
   | zero=>rfl
   | succ M=>rw[zle,if_neg (fun h=>by simp at h)]
  simp only[awp,yie]
  refine zbw _ rfl ?_
  intro O l R hl hd hR
  subst hl
  iterate 4(refine za6 fun r hr => ?_;simp(etaStruct := .none)only[push_cast,zab,seval,hd];subst hr)
  refine za6 fun r hr => ?_
  simp(etaStruct := .none)only[push_cast,zab,seval,hd]
  refine zcw (zq7 []) (WkL.refl _) rfl ?_
  simp(etaStruct := .none)only[push_cast,zab,seval,hd,List.length_nil,Int.ofNat_zero,Int.lt_irrefl]
  subst hr
  iterate 28(refine za6 fun r hr => ?_;simp(etaStruct := .none)only[push_cast,zab,seval,hd,zaa _ _ _ hbF,zae,List.length_nil,Int.ofNat_zero,Int.lt_irrefl,id];(try refine⟨fun h=>absurd h (by decide),?_⟩);(try refine⟨fun h=>h.elim,?_⟩);subst hr)
  refine zmu ?_
  subst hR
  refine zmt (by kernel_rfl) ?_
  simp(etaStruct := .none) (maxSteps:=1000000)only[push_cast,zab,seval]
  refine za1 (fun h1 => ?_) (fun h1 => ?_)
  ·exact absurd h1 (by decide)
  ·rw[←hu,e]
   try refine xst ?_
   refine zbc [0,1,2,3] rfl rfl (by decide) ⟨?_,?_,?_,?_,trivial⟩ trivial ?_<;>simp(etaStruct := .none)only[push_cast,zab,seval]
 have hzd:(0<(m.length:Int))=True:=eq_true (by omega)
 have hmu5:m.length≤100000:=by unfold muS at hm;omega
 (iterate 2((try simp(etaStruct := .none)only[push_cast,seval,hzd,zaa _ _ _ hbF,zaa _ _ _ hz,zae,zb6]);(try(refine xsu ?_;try exact xtI))))
 refine zbw [some 14,some 15,some 16,some 17,some 18,some 19,some 20,some 21,some 22,some 23,some 24,some 25,some 26,some 27,some 28,some 29,some 30,some 31,some 32,some 33,some 34,some 35,some 36,some 37,some 38,some 39,some 40,some 41,some 42,some 43,some 44,some 45,some 46] rfl ?_
 intro Oq lq Rq hlq hdq hRq
 subst hlq
 iterate 4(refine za6 fun rq hrq => ?_;(iterate 2((try simp(etaStruct := .none)only[push_cast,seval,hdq,id,hzd,zaa _ _ _ hbF,zaa _ _ _ hz,zae,zb6]);(try(refine xsu ?_;try exact xtI))));subst hrq)
 refine za6 fun rq hrq => ?_
 (iterate 2((try simp(etaStruct := .none)only[push_cast,seval,hdq,id,hzd,zaa _ _ _ hbF,zaa _ _ _ hz,zae,zb6]);(try(refine xsu ?_;try exact xtI))))
 refine zcw (zq7 m) (WkL.refl _) rfl ?_
 (iterate 2((try simp(etaStruct := .none)only[push_cast,seval,hdq,id,hzd,zaa _ _ _ hbF,zaa _ _ _ hz,zae,zb6]);(try(refine xsu ?_;try exact xtI))))
 subst hrq
 iterate 28(refine za6 fun rq hrq => ?_;(iterate 2((try simp(etaStruct := .none)only[push_cast,seval,hdq,id,hzd,zaa _ _ _ hbF,zaa _ _ _ hz,zae,zb6]);(try(refine xsu ?_;try exact xtI))));subst hrq)
 refine zmu ?_
 subst hRq
 clear hdq Oq
 refine zmt (by kernel_rfl) ?_
 (iterate 2((try simp(etaStruct := .none)only[push_cast,seval,hzd,zaa _ _ _ hbF,zaa _ _ _ hz,zae,zb6]);(try(refine xsu ?_;try exact xtI))))
 refine cI (fun h1 => ?_) fun h1 => ?_
 ·have hg:goB f b fr m:=⟨hz,h1⟩
  obtain⟨p,e1,hp,j0,jb,_⟩:=hA.itm _ ((zfy Nod.all m hz _).2 (.inl rfl))
  obtain⟨hin,hidx⟩:=zud (f:=f) hw hh hW (p:=p) (by omega)
  rw[←e1]at hin hidx
  have hpF:zar f (m.getD 0 default).c<fr.length:=by rw[hidx,hA.len];exact hp
  have hci:=inF_iff.1 hin
  have hcl:=zhi ze9 1 zhl fr
  rw[hA.len]at hcl
  obtain⟨M',rfl⟩:∃M',M=M'+1:=⟨M-1,by unfold muS at hm;omega⟩
  have hrun:=ya9 hg M'
  (iterate 2((try simp(etaStruct := .none)only[push_cast,seval,hzd,zaa _ _ _ hbF,zaa _ _ _ hz,zae,zb6,zaa _ _ _ hpF]);(try(refine xsu ?_;try exact xtI))))
  refine caM [0,1,3] (yby f b fr m hz (by omega)) ?_
  (iterate 2((try simp(etaStruct := .none)only[push_cast,seval,hzd,zaa _ _ _ hbF,zaa _ _ _ hz,zae,zb6,zaa _ _ _ hpF]);(try(refine xsu ?_;try exact xtI))))
  refine zbw [some 53,some 54,some 55,some 56,some 57,some 58,some 59,some 60,some 61,some 62,some 63] rfl ?_
  intro Oq lq Rq hlq hdq hRq
  subst hlq
  iterate 7(refine za6 fun rq hrq => ?_;(iterate 2((try simp(etaStruct := .none)only[push_cast,seval,hdq,id,hzd,zaa _ _ _ hbF,zaa _ _ _ hz,zae,zb6,zaa _ _ _ hpF]);(try(refine xsu ?_;try exact xtI))));subst hrq)
  refine za6 fun rq hrq => ?_
  (iterate 2((try simp(etaStruct := .none)only[push_cast,seval,hdq,id,hzd,zaa _ _ _ hbF,zaa _ _ _ hz,zae,zb6,zaa _ _ _ hpF]);(try(refine xsu ?_;try exact xtI))))
  refine zcw (zes f b fr (zf6 Nod.all m) (m.getD 0 default).c hf hin) (WkL.refl _) rfl ?_
  (iterate 2((try simp(etaStruct := .none)only[push_cast,seval,hdq,id,hzd,zaa _ _ _ hbF,zaa _ _ _ hz,zae,zb6,zaa _ _ _ hpF]);(try(refine xsu ?_;try exact xtI))))
  subst hrq
  iterate 3(refine za6 fun rq hrq => ?_;(iterate 2((try simp(etaStruct := .none)only[push_cast,seval,hdq,id,hzd,zaa _ _ _ hbF,zaa _ _ _ hz,zae,zb6,zaa _ _ _ hpF]);(try(refine xsu ?_;try exact xtI))));subst hrq)
  refine zmu ?_
  subst hRq
  clear hdq Oq
  refine zmt (by kernel_rfl) ?_
  (iterate 2((try simp(etaStruct := .none)only[push_cast,seval,hzd,zaa _ _ _ hbF,zaa _ _ _ hz,zae,zb6,zaa _ _ _ hpF]);(try(refine xsu ?_;try exact xtI))))
  refine cI (fun h2 => ?_) fun h2 => ?_
  ·skip
   (iterate 2((try simp(etaStruct := .none)only[push_cast,seval,hzd,zaa _ _ _ hbF,zaa _ _ _ hz,zae,zb6,zaa _ _ _ hpF]);(try(refine xsu ?_;try exact xtI))))
   refine⟨(M',fr,zf6 Nod.all m),⟨hA.skip hz e1 (by rw[←hidx];exact h2),by simp only;unfold muS at hm ⊢;rw[zgx];omega,by simp only;omega,by rw[←hu,hrun,if_pos h2]⟩,by simp only;omega,To.mk [0,1,2,136] rfl rfl (by decide) ?_ ?_⟩
   ·(iterate 2((try simp(etaStruct := .none)only[push_cast,seval,hzd,zaa _ _ _ hbF,zaa _ _ _ hz,zae,zb6,zaa _ _ _ hpF]);(try(refine xsu ?_;try exact xtI))))
   ·(iterate 2((try simp(etaStruct := .none)only[push_cast,seval,hzd,zaa _ _ _ hbF,zaa _ _ _ hz,zae,zb6,zaa _ _ _ hpF]);(try(refine xsu ?_;try exact xtI))))
  ·obtain⟨p',e1',_,_,_,hA2,hself,cnt,top,hb3⟩:=zxb hw hh hW hf hL b hA hz (by omega)
   obtain rfl:p=p':=zee (e1.symm.trans e1')
   obtain⟨C,hC⟩:∃C,C=(m.getD 0 default).c:=⟨_,rfl⟩
   obtain⟨D,hD⟩:∃D,D=(m.getD 0 default).far:=⟨_,rfl⟩
   rw[←hidx,←hC,←hD]at hA2 hself cnt top hb3
   rw[←hC,←hD]at hrun
   rw[←hC]at hin hci e1 hidx hpF
   rw[←hD]at j0 jb
   obtain⟨Fq,hFS⟩:∃Fq,Fq=fr.set (zar f C) D:=⟨_,rfl⟩
   rw[←hFS]at hA2 hself cnt top hb3 hrun
   have hFl:Fq.length=f.p.length:=by rw[hFS,List.length_set];exact hA.len
   (iterate 2((try simp(etaStruct := .none)only[push_cast,seval,hzd,zaa _ _ _ hbF,zaa _ _ _ hz,zae,zb6,zaa _ _ _ hpF,←hC,←hD]);(try(refine xsu ?_;try exact xtI))))
   refine zbw [some 64,some 65,some 66,some 67,some 68,some 69,some 70,some 71,some 72,some 73,some 74,none] rfl ?_
   intro Oq lq Rq hlq hdq hRq
   subst hlq
   iterate 7(refine za6 fun rq hrq => ?_;(iterate 2((try simp(etaStruct := .none)only[push_cast,seval,hdq,id,hzd,zaa _ _ _ hbF,zaa _ _ _ hz,zae,zb6,zaa _ _ _ hpF,←hC,←hD]);(try(refine xsu ?_;try exact xtI))));subst hrq)
   refine za6 fun rq hrq => ?_
   (iterate 2((try simp(etaStruct := .none)only[push_cast,seval,hdq,id,hzd,zaa _ _ _ hbF,zaa _ _ _ hz,zae,zb6,zaa _ _ _ hpF,←hC,←hD]);(try(refine xsu ?_;try exact xtI))))
   refine zcw (zes f b fr (zf6 Nod.all m) C hf hin) (WkL.refl _) rfl ?_
   (iterate 2((try simp(etaStruct := .none)only[push_cast,seval,hdq,id,hzd,zaa _ _ _ hbF,zaa _ _ _ hz,zae,zb6,zaa _ _ _ hpF,←hC,←hD]);(try(refine xsu ?_;try exact xtI))))
   subst hrq
   iterate 4(refine za6 fun rq hrq => ?_;(iterate 2((try simp(etaStruct := .none)only[push_cast,seval,hdq,id,hzd,zaa _ _ _ hbF,zaa _ _ _ hz,zae,zb6,zaa _ _ _ hpF,←hC,←hD]);(try(refine xsu ?_;try exact xtI))));subst hrq)
   refine zmu ?_
   subst hRq
   clear hdq Oq
   refine zmt (by kernel_rfl) ?_
   (iterate 2((try simp(etaStruct := .none)only[push_cast,seval,hzd,zaa _ _ _ hbF,zaa _ _ _ hz,zae,zb6,zaa _ _ _ hpF,←hC,←hD]);(try(refine xsu ?_;try exact xtI))))
   refine caP (zvl C (by omega) (by omega)) ?_
   (iterate 2((try simp(etaStruct := .none)only[push_cast,seval,hzd,zaa _ _ _ hbF,zaa _ _ _ hz,zae,zb6,zaa _ _ _ hpF,←hC,←hD]);(try(refine xsu ?_;try exact xtI))))
   refine za3 (fun k:Nat=>⟨[(78,I .i64 k),(77,.agg [I .i64 C.x,I .i64 (C.y-1),I .i64 (C.x-1),I .i64 C.y,I .i64 (C.x+1),I .i64 C.y,I .i64 C.x,I .i64 (C.y+1)]),(3,.ptr 4 0 0),(2,I .i64 (zar f b)),(0,.ptr 0 0 0)],[(0,.blk 300 [I .i64 f.w,I .i64 f.h,.c (.sl 1 (f.p.map zae)),I .i64 b.x,I .i64 b.y,.own 1,.own 3]),(1,.row 3 1 (Fq.map zae)),(2,.dead),(3,.row 327 4 ((ze6 f b Fq D (zf6 Nod.all m) ((zal C).take k)).map zb6)),(4,.blk 327 [I .i64 C.x,I .i64 C.y,I .i64 D,I .i64 (m.getD 0 default).all])],5⟩) (fun k:Nat=>k≤4) (fun k:Nat=>4-k) (0) (Nat.zero_le _) (To.mk [0,1,2,136,137] rfl rfl (by decide) ?_ ?_) ?_
   ·simp(etaStruct := .none)only[push_cast,zab,seval,List.map_set,zae,List.take_zero,ze6,List.foldl_nil,hFS]
   ·simp(etaStruct := .none)only[push_cast,zab,seval,Int.ofNat_zero]
   rintro k hk2
   (iterate 2((try simp(etaStruct := .none)only[push_cast,seval,hzd,zaa _ _ _ hbF,zaa _ _ _ hz,zae,zb6,zaa _ _ _ hpF,←hC,←hD]);(try(refine xsu ?_;try exact xtI))))
   refine cI (fun h3 => ?_) fun h3 => ?_
   ·have hlt:k<4:=by omega
    have hsc:=zk8 C k hlt
    have hsn:=z0p hf hin k hlt
    have hst:ze6 f b Fq D (zf6 Nod.all m) ((zal C).take (k+1))=lk f b Fq D (ze6 f b Fq D (zf6 Nod.all m) ((zal C).take k)) ((zal C).getD k default):=by rw[zas _ _ (show k<(zal C).length from hlt),znh]
    have hgG:yct f ((zal C).getD k default)<Fq.length:=by rw[hFl];exact z2r hf _
    have hcb:0≤(zda f ((zal C).getD k default)).1∧(zda f ((zal C).getD k default)).1≤3:=by
     have:=zzp (zao f ((zal C).getD k default))
     unfold zda
     split
     ·split<;>simp only<;>omega
     ·simp only;omega
    have hql:((ze6 f b Fq D (zf6 Nod.all m) ((zal C).take k))).length≤100004:=by
     have h1:=zlx f b Fq D ((zal C).take k) (zf6 Nod.all m)
     rw[zgx,List.length_take]at h1
     omega
    (iterate 2((try simp(etaStruct := .none)only[push_cast,seval,hzd,zaa _ _ _ hbF,zaa _ _ _ hz,zae,zb6,zaa _ _ _ hpF,←hC,←hD,hsc,zaa _ _ _ hgG,zae]);(try(refine xsu ?_;try exact xtI))))
    refine zcw (ztf f b Fq (ze6 f b Fq D (zf6 Nod.all m) ((zal C).take k)) ((zal C).getD k default) hf) (WkL.refl _) rfl ?_
    (iterate 2((try simp(etaStruct := .none)only[push_cast,seval,hzd,zaa _ _ _ hbF,zaa _ _ _ hz,zae,zb6,zaa _ _ _ hpF,←hC,←hD,hsc,zaa _ _ _ hgG,zae]);(try(refine xsu ?_;try exact xtI))))
    refine zbw [some 87,some 88,some 89,some 90,some 91,some 92,some 93,some 94,some 95,some 96,some 97,some 98,some 99] rfl ?_
    intro Oq lq Rq hlq hdq hRq
    subst hlq
    iterate 8(refine za6 fun rq hrq => ?_;(iterate 2((try simp(etaStruct := .none)only[push_cast,seval,hdq,id,hzd,zaa _ _ _ hbF,zaa _ _ _ hz,zae,zb6,zaa _ _ _ hpF,←hC,←hD,hsc,zaa _ _ _ hgG,zae]);(try(refine xsu ?_;try exact xtI))));subst hrq)
    refine za6 fun rq hrq => ?_
    (iterate 2((try simp(etaStruct := .none)only[push_cast,seval,hdq,id,hzd,zaa _ _ _ hbF,zaa _ _ _ hz,zae,zb6,zaa _ _ _ hpF,←hC,←hD,hsc,zaa _ _ _ hgG,zae]);(try(refine xsu ?_;try exact xtI))))
    refine zl8 (fun hcc=>zlj f b Fq (ze6 f b Fq D (zf6 Nod.all m) ((zal C).take k)) ((zal C).getD k default) hf hcc) (WkL.refl _) rfl (by intro hc;(try simp(etaStruct := .none)only[push_cast,zab,seval]);(try simp_all)) ?_
    (iterate 2((try simp(etaStruct := .none)only[push_cast,seval,hdq,id,hzd,zaa _ _ _ hbF,zaa _ _ _ hz,zae,zb6,zaa _ _ _ hpF,←hC,←hD,hsc,zaa _ _ _ hgG,zae]);(try(refine xsu ?_;try exact xtI))))
    subst hrq
    iterate 4(refine za6 fun rq hrq => ?_;(iterate 2((try simp(etaStruct := .none)only[push_cast,seval,hdq,id,hzd,zaa _ _ _ hbF,zaa _ _ _ hz,zae,zb6,zaa _ _ _ hpF,←hC,←hD,hsc,zaa _ _ _ hgG,zae]);(try(refine xsu ?_;try exact xtI))));subst hrq)
    refine zmu ?_
    subst hRq
    clear hdq Oq
    refine zmt (by kernel_rfl) ?_
    (iterate 2((try simp(etaStruct := .none)only[push_cast,seval,hzd,zaa _ _ _ hbF,zaa _ _ _ hz,zae,zb6,zaa _ _ _ hpF,←hC,←hD,hsc,zaa _ _ _ hgG,zae]);(try(refine xsu ?_;try exact xtI))))
    refine cI (fun h4 => ?_) fun h4 => ?_
    ·have hin2:inF f ((zal C).getD k default)=true:=by
      cases hi:inF f ((zal C).getD k default)with
      | true=>rfl
      | false=>have:=h4.1;unfold zda at this;rw[hi]at this;simp at this
     have hlk:lk f b Fq D (ze6 f b Fq D (zf6 Nod.all m) ((zal C).take k)) ((zal C).getD k default)=zd4 Nod.all (ze6 f b Fq D (zf6 Nod.all m) ((zal C).take k)) ⟨((zal C).getD k default),D+(zda f ((zal C).getD k default)).1,D+(zda f ((zal C).getD k default)).1+zbm b ((zal C).getD k default)⟩:=by unfold lk;rw[if_pos ⟨h4.1,by rw[←zji hin2];exact h4.2⟩]
     rw[hlk]at hst
     (iterate 2((try simp(etaStruct := .none)only[push_cast,seval,hzd,zaa _ _ _ hbF,zaa _ _ _ hz,zae,zb6,zaa _ _ _ hpF,←hC,←hD,hsc,zaa _ _ _ hgG,zae,hst]);(try(refine xsu ?_;try exact xtI))))
     refine caM [0,1,3] (ybh f b Fq (ze6 f b Fq D (zf6 Nod.all m) ((zal C).take k)) ((zal C).getD k default) (D+(zda f ((zal C).getD k default)).1) (by omega) hsn.1 hsn.2 (by omega) (by omega) (by omega)) ?_
     (iterate 2((try simp(etaStruct := .none)only[push_cast,seval,hzd,zaa _ _ _ hbF,zaa _ _ _ hz,zae,zb6,zaa _ _ _ hpF,←hC,←hD,hsc,zaa _ _ _ hgG,zae,hst]);(try(refine xsu ?_;try exact xtI))))
     refine⟨k+1,by omega,by omega,To.mk [0,1,2,58,4] rfl rfl (by decide) ?_ ?_⟩
     ·(iterate 2((try simp(etaStruct := .none)only[push_cast,seval,hzd,zaa _ _ _ hbF,zaa _ _ _ hz,zae,zb6,zaa _ _ _ hpF,←hC,←hD,hsc,zaa _ _ _ hgG,zae,hst]);(try(refine xsu ?_;try exact xtI))))
     ·(iterate 2((try simp(etaStruct := .none)only[push_cast,seval,hzd,zaa _ _ _ hbF,zaa _ _ _ hz,zae,zb6,zaa _ _ _ hpF,←hC,←hD,hsc,zaa _ _ _ hgG,zae,hst]);(try(refine xsu ?_;try exact xtI))))
    ·have hlk:lk f b Fq D (ze6 f b Fq D (zf6 Nod.all m) ((zal C).take k)) ((zal C).getD k default)=(ze6 f b Fq D (zf6 Nod.all m) ((zal C).take k)):=by
      unfold lk
      rw[if_neg]
      rintro⟨c1,c2⟩
      have hin2:inF f ((zal C).getD k default)=true:=by
       cases hi:inF f ((zal C).getD k default)with
       | true=>rfl
       | false=>unfold zda at c1;rw[hi]at c1;simp at c1
      rw[←zji hin2]at c2
      rcases h4 with h4|h4
      ·rw[c1]at h4;exact absurd h4 (by decide)
      ·omega
     rw[hlk]at hst
     (iterate 2((try simp(etaStruct := .none)only[push_cast,seval,hzd,zaa _ _ _ hbF,zaa _ _ _ hz,zae,zb6,zaa _ _ _ hpF,←hC,←hD,hsc,zaa _ _ _ hgG,zae,hst]);(try(refine xsu ?_;try exact xtI))))
     refine⟨k+1,by omega,by omega,To.mk [0,1,2,3,4] rfl rfl (by decide) ?_ ?_⟩
     ·(iterate 2((try simp(etaStruct := .none)only[push_cast,seval,hzd,zaa _ _ _ hbF,zaa _ _ _ hz,zae,zb6,zaa _ _ _ hpF,←hC,←hD,hsc,zaa _ _ _ hgG,zae,hst]);(try(refine xsu ?_;try exact xtI))))
     ·(iterate 2((try simp(etaStruct := .none)only[push_cast,seval,hzd,zaa _ _ _ hbF,zaa _ _ _ hz,zae,zb6,zaa _ _ _ hpF,←hC,←hD,hsc,zaa _ _ _ hgG,zae,hst]);(try(refine xsu ?_;try exact xtI))))
   ·obtain rfl:k=4:=by omega
    have ht4:(zal C).take 4=zal C:=rfl
    have hpc:zar f C<f.p.length:=by omega
    have h4:=z9n hw hh hW hf hL b hA2 hpc hself j0 top hb3 4 (Nat.le_refl _)
    rw[hidx,←e1,ht4,←hidx]at h4
    have h5:=zv9 hw hh hW hL hpc h4
    have hll:=zlx f b Fq D (zal C) (zf6 Nod.all m)
    rw[zgx,show (zal C).length=4 from rfl]at hll
    have hcl2:=zhi ze9 1 zhl Fq
    rw[hFl]at hcl2
    (iterate 2((try simp(etaStruct := .none)only[push_cast,seval,hzd,zaa _ _ _ hbF,zaa _ _ _ hz,zae,zb6,zaa _ _ _ hpF,←hC,←hD,ht4]);(try(refine xsu ?_;try exact xtI))))
    refine⟨(M',Fq,ze6 f b Fq D (zf6 Nod.all m) (zal C)),⟨h5,by simp only;unfold muS at hm ⊢;omega,by simp only;omega,by rw[←hu,hrun,if_neg (by rw[hC];omega)]⟩,by simp only;omega,To.mk [0,1,2,3] rfl rfl (by decide) ?_ ?_⟩
    ·(iterate 2((try simp(etaStruct := .none)only[push_cast,seval,hzd,zaa _ _ _ hbF,zaa _ _ _ hz,zae,zb6,zaa _ _ _ hpF,←hC,←hD,ht4]);(try(refine xsu ?_;try exact xtI))))
    ·(iterate 2((try simp(etaStruct := .none)only[push_cast,seval,hzd,zaa _ _ _ hbF,zaa _ _ _ hz,zae,zb6,zaa _ _ _ hpF,←hC,←hD,ht4]);(try(refine xsu ?_;try exact xtI))))
 ·rw[←hu,ya8 (fun h=>by have:=h.2;omega) M]
  (iterate 2((try simp(etaStruct := .none)only[push_cast,seval,hzd,zaa _ _ _ hbF,zaa _ _ _ hz,zae,zb6]);(try(refine xsu ?_;try exact xtI))))
  refine zbc [0,1,2,3] rfl rfl (by decide) ⟨?_,?_,?_,?_,trivial⟩ trivial ?_<;>simp(etaStruct := .none)only[push_cast,zab,seval]
theorem z1i (f:Fld) (b:Cel) (far:List Int) (x:Nod):Spec Tryz.prog 219 [.ptr 0 0 6,.ifc 327 (yej x)] [.blk 300 [I .i64 f.w,I .i64 f.h,.c (.sl 1 (f.p.map zae)),I .i64 b.x,I .i64 b.y,.own 1,.c (.v (.slice none 0 0))],.row 3 1 (far.map zae)] (.tup []) [.blk 300 [I .i64 f.w,I .i64 f.h,.c (.sl 1 (f.p.map zae)),I .i64 b.x,I .i64 b.y,.own 1,.own 2],.row 3 1 (far.map zae),.row 327 4 ([x].map zb6)]:=by
 refine spB Tryz.func219 13 [] Tryz.results219 ?_
 try refine xst ?_
 (try(refine⟨by kernel_rfl,?_⟩))
 try refine xst ?_
 refine zbc [0,1,30] rfl rfl (by decide) ⟨?_,?_,?_,trivial⟩ trivial ?_<;>simp(etaStruct := .none)only[push_cast,zab,seval,zb6]
theorem z1p (f:Fld) (b:Cel) (far:List Int) (x:Nod):Spec Tryz.prog 189 [.ifc 325 (.ptr 0 0 6),.ifc 327 (yej x)] [.blk 300 [I .i64 f.w,I .i64 f.h,.c (.sl 1 (f.p.map zae)),I .i64 b.x,I .i64 b.y,.own 1,.c (.v (.slice none 0 0))],.row 3 1 (far.map zae)] (.tup []) [.blk 300 [I .i64 f.w,I .i64 f.h,.c (.sl 1 (f.p.map zae)),I .i64 b.x,I .i64 b.y,.own 1,.own 2],.row 3 1 (far.map zae),.row 327 4 ((zd4 Nod.all [] x).map zb6)]:=by
 refine spB Tryz.func189 12 [] Tryz.results189 ?_
 try refine xst ?_
 refine caM [0,1] (z1i f b far x) ?_
 try refine xst ?_
 refine zcw (zq7 [x]) (WkL.refl _) rfl ?_
 try refine xst ?_
 refine caM [0,1,2] (yfx f b far [x] 0 (by simp) (by simp)) ?_
 try refine xst ?_
 refine zbc [0,1,2] rfl rfl (by decide) ⟨?_,?_,?_,trivial⟩ trivial ?_<;>simp(etaStruct := .none)only[push_cast,zab,seval,zd4]
abbrev srB (f:Fld) (b:Cel) (x y:AV):Chunk := .blk 300 [I .i64 f.w,I .i64 f.h,.c (.sl 1 (f.p.map zae)),I .i64 b.x,I .i64 b.y,x,y]
theorem zvm (f:Fld) (b:Cel) (far:List Int) (c:Cel) (d:Int) (hx : -1000≤c.x∧c.x≤1000) (hy : -1000≤c.y∧c.y≤1000) (hbx:0≤b.x∧b.x≤40) (hby:0≤b.y∧b.y≤40) (hd:0≤d∧d≤1000000):Spec Tryz.prog 179 [.ptr 0 0 0,zhv c,I .i64 d] [.blk 300 [I .i64 f.w,I .i64 f.h,.c (.sl 1 (f.p.map zae)),I .i64 b.x,I .i64 b.y,.own 1,.c (.v (.slice none 0 0))],.row 3 1 (far.map zae)] (.tup []) [.blk 300 [I .i64 f.w,I .i64 f.h,.c (.sl 1 (f.p.map zae)),I .i64 b.x,I .i64 b.y,.own 1,.own 2],.row 3 1 (far.map zae),.row 327 4 ((zd4 Nod.all [] ⟨c,d,d+zbm b c⟩).map zb6)]:=by
 have e1:IntKind.i64.wrap (d+IntKind.i64.wrap (2*(((b.x-c.x).natAbs+(b.y-c.y).natAbs:Nat):Int)))=d+zbm b c:=by unfold zbm;rw[zaq (2*_) (by omega) (by omega),zaq _ (by omega) (by omega)]
 refine spB Tryz.func179 32 [] Tryz.results179 ?_
 try refine xz1 e1 ?_
 refine caP (zoy c b (by simp[zep];omega) (by simp[zep];omega)) ?_
 try refine xz1 e1 ?_
 (try(refine⟨by kernel_rfl,?_⟩))
 try refine xz1 e1 ?_
 refine zcb [0,1] (z1p f b far ⟨c,d,d+zbm b c⟩) (WkL.refl _) rfl (by decide) (by simp[zay,zb1,zf9]) ?_
 try refine xz1 e1 ?_
 (try(refine⟨by kernel_rfl,?_⟩))
 try refine xz1 e1 ?_
 refine zbc [0,1,103] rfl rfl (by decide) ⟨?_,?_,?_,trivial⟩ trivial ?_<;>simp(etaStruct := .none)only[push_cast,zab,seval]
theorem znw {f:Fld} {c:Cel} (hf:zb7 f=0):atV f c=if inF f c then (zao f c,0)else (0,7):=by unfold atV;rw[if_neg (by simp[hf])]
theorem zs4 (f:Fld) (a b:Cel) (hl:f.p.length≤9223372036854775807) (hE:zb7 f≠0∨¬(inF f a=true∧inF f b=true)∨zao f a=1∨zao f b=1) (R:List Int):Spec Tryz.prog 160 [z3k f,zhv a,zhv b] [] (.tup [.c (.v (.pointer none)),I .i64 (zmk R f a b)]) []:=by
 have key:(atV f a).2≠0∧zmk R f a b=(atV f a).2∨(atV f a).2=0∧(atV f b).2≠0∧zmk R f a b=(atV f b).2∨(atV f a).2=0∧(atV f b).2=0∧zmk R f a b=9∧((atV f a).1=1∨(atV f b).1=1):=by
  by_cases hf:zb7 f=0
  ·rw[znw hf,znw hf]
   unfold zmk
   cases ha:inF f a with
   | false=>exact .inl ⟨by simp[ha],by simp[ha,hf]⟩
   | true =>
    cases hb:inF f b with
    | false=>exact .inr (.inl ⟨by simp[ha],by simp[hb],by simp[hb,hf]⟩)
    | true =>
     rcases hE with h|h|h
     ·exact absurd hf h
     ·exact absurd ⟨ha,hb⟩ h
     ·exact .inr (.inr ⟨by simp[ha],by simp[hb],by simp[ha,hb,hf,h],by simpa[ha,hb]using h⟩)
  ·have e:∀c,atV f c=(0,zb7 f):=fun c=>by unfold atV;rw[if_pos hf]
   rw[e]
   unfold zmk
   rw[if_pos hf]
   exact .inl ⟨hf,rfl⟩
 refine spB Tryz.func160 61 [.tmp 6,.tmp 7] Tryz.results160 ?_
 try refine xst ?_
 refine caP (zzs f a hl) ?_
 try refine xst ?_
 refine cI (fun h1 => ?_) fun h1 => ?_
 ·have e:zmk R f a b=(atV f a).2:=by
   rcases key with k|k|k
   ·exact k.2
   ·exact absurd k.1 h1
   ·exact absurd k.1 h1
  try refine xst ?_
  (first|(refine zaz rfl (Wk.of ?_);(try simp(etaStruct := .none)only[push_cast,zab,seval]);first|done|(simp[e, *];done)|(simp_all[e];done))|(refine zaz rfl ?_;(try simp(etaStruct := .none)only[push_cast,zab,seval]);(try simp[e, *]);(try exact wkc)))
 ·try refine xst ?_
  refine caP (zzs f b hl) ?_
  try refine xst ?_
  refine cI (fun h2 => ?_) fun h2 => ?_
  ·have e:zmk R f a b=(atV f b).2:=by
    rcases key with k|k|k
    ·exact absurd h1 k.1
    ·exact k.2.2
    ·exact absurd k.2.1 h2
   try refine xst ?_
   (first|(refine zaz rfl (Wk.of ?_);(try simp(etaStruct := .none)only[push_cast,zab,seval]);first|done|(simp[e, *];done)|(simp_all[e];done))|(refine zaz rfl ?_;(try simp(etaStruct := .none)only[push_cast,zab,seval]);(try simp[e, *]);(try exact wkc)))
  ·try refine xst ?_
   refine cI (fun h3 => ?_) fun h3 => ?_
   ·have e:zmk R f a b=9:=by
     rcases key with k|k|k
     ·exact absurd h1 k.1
     ·exact absurd h2 k.2.1
     ·exact k.2.2.1
    try refine xst ?_
    (first|(refine zaz rfl (Wk.of ?_);(try simp(etaStruct := .none)only[push_cast,zab,seval]);first|done|(simp[e, *];done)|(simp_all[e];done))|(refine zaz rfl ?_;(try simp(etaStruct := .none)only[push_cast,zab,seval]);(try simp[e, *]);(try exact wkc)))
   ·exfalso
    rcases key with k|k|k
    ·exact absurd h1 k.1
    ·exact absurd h2 k.2.1
    ·have:=k.2.2.2;omega
def zc7 (f:Fld) (a b:Cel):List Int × List Nod:=zle f b 8001 (List.replicate f.p.length (-1)) (zd4 Nod.all [] ⟨a,0,0+zbm b a⟩)
theorem ykl (f:Fld) (x:Nod) (h:f.p.length≤1600):muS f (List.replicate f.p.length (-1)) (zd4 Nod.all [] x)≤8001:=by
 unfold muS;rw[zl4];simp only[List.length_nil];omega
theorem As0 {f:Fld} {W H:Nat} (hw:f.w=(W:Int)) (hh:f.h=(H:Int)) (hW:0<W) (hf:zb7 f=0) (b:Cel) {a:Cel} (ha:inF f a=true):As W f.p (zar f a) (fun n=>zbm b (zd8 W n)) (List.replicate f.p.length (-1)) (zd4 Nod.all [] ⟨a,0,0+zbm b a⟩) fun _ _=>True:=by
 obtain⟨e,hlt⟩:=zbp hw hh hW hf ha
 have:=As.start (W:=W) (pl:=f.p) (a:=zar f a) (hh:=fun n=>zbm b (zd8 W n)) hlt
 rw[←e]at this
 exact this
theorem yc7 {f:Fld} (hf:zb7 f=0):∃W H:Nat,f.w=(W:Int)∧f.h=(H:Int)∧0<W∧f.p.length=W*H:=by
 obtain⟨⟨w1,w2⟩,⟨w3,w4⟩,wl,wp⟩:=zbs hf
 obtain⟨W,hW⟩:∃W:Nat,f.w=(W:Int):=Int.eq_ofNat_of_zero_le (by omega)
 obtain⟨H,hH⟩:∃H:Nat,f.h=(H:Int):=Int.eq_ofNat_of_zero_le (by omega)
 exact⟨W,H,hW,hH,by omega,by rw[hW,hH]at wl;exact_mod_cast wl⟩
structure Srch (f : Fld) (a b : Cel) (R : List Int) (W H : Nat) : Prop where
 w:f.w=(W:Int)
 h:f.h=(H:Int)
 w0:0<W
 l:f.p.length=W*H
 r:Flood W f.p [zar f a] R
 ass:As W f.p (zar f a) (fun n=>zbm b (zd8 W n)) (zc7 f a b).1 (zc7 f a b).2 fun _ _=>True
 no:¬goB f b (zc7 f a b).1 (zc7 f a b).2
theorem yic {f:Fld} {a b:Cel} {R:List Int} (hf:zb7 f=0) (ha:inF f a=true) (hpa:zao f a≠1) (hR:zat f [a] R):∃W H,Srch f a b R W H:=by
 obtain⟨W,H,hw,hh,hW,hL⟩:=yc7 hf
 have hA:=yfm hw hh hW hf hL b 8001 _ _ (As0 hw hh hW hf b ha) (ykl f _ (zby hf ha).2.2.2.2)
 have hlt:=(zbp hw hh hW hf ha).2
 obtain⟨F,hF⟩:=z7m (W:=W) (pl:=f.p) (s := [zar f a]) hW (zby hf ha).2.2.2.2 (by intro p hp;rw[List.mem_singleton]at hp;rw[hp];exact hlt)
 have e:zr3 f [a]=0:=by
  unfold zr3 yid yid
  rw[if_neg (by simp[hf]),if_neg (by simp),if_pos ha,if_neg hpa]
 have:=hR.1 e F (by rw[hw,Int.toNat_natCast];exact hF)
 subst this
 exact⟨W,H,hw,hh,hW,hL,hF,hA.1,hA.2⟩
theorem Srch.end {f:Fld} {a b:Cel} {R:List Int} {W H:Nat} (s:Srch f a b R W H) (hf:zb7 f=0) (ha:inF f a=true) (hb:inF f b=true):((zc7 f a b).1.getD (zar f b) default<0↔R.getD (zar f b) default<0)∧(0≤R.getD (zar f b) default→(zc7 f a b).1.getD (zar f b) default=R.getD (zar f b) default∧∀x∈(zc7 f a b).2,R.getD (zar f b) default<x.all):=by
 have hcons:=zo4 s.w s.h s.w0 b
 rw[←s.l]at hcons
 have haL:=(zbp s.w s.h s.w0 hf ha).2
 have hbL:=(zbp s.w s.h s.w0 hf hb).2
 have h1:∀h:0≤(zc7 f a b).1.getD (zar f b) default,(zc7 f a b).1.getD (zar f b) default=R.getD (zar f b) default:=fun h=>s.ass.same hcons haL s.r hbL h
 have h2:(zc7 f a b).1.getD (zar f b) default<0→R.getD (zar f b) default<0:=fun h=>by
  rcases Int.lt_or_le (R.getD (zar f b) default) 0 with h3|h3
  ·exact h3
  ·have hq:(zc7 f a b).2 = []:=by
    have:=s.no
    unfold goB at this
    cases hq:(zc7 f a b).2 with
    | nil=>rfl
    | cons x r=>exact absurd ⟨by rw[hq];simp,.inl h⟩ this
   have:=s.ass.known hcons haL s.r hbL h3 (by rw[hq];intro x hx;simp at hx)
   omega
 refine⟨⟨h2,fun h => ?_⟩,fun h => ?_⟩
 ·rcases Int.lt_or_le ((zc7 f a b).1.getD (zar f b) default) 0 with h3|h3
  ·exact h3
  ·have:=h1 h3;omega
 ·have h3:0≤(zc7 f a b).1.getD (zar f b) default:=by
   rcases Int.lt_or_le ((zc7 f a b).1.getD (zar f b) default) 0 with h3|h3
   ·have:=h2 h3;omega
   ·exact h3
  have h4:=h1 h3
  refine⟨h4,fun x hx => ?_⟩
  obtain⟨k,hk,rfl⟩:=mem_getD.1 hx
  have hle:=zo5 _ s.ass.heap k hk
  have:=s.no
  unfold goB at this
  rw[h4]at this
  rcases Int.lt_or_le (R.getD (zar f b) default) ((zc7 f a b).2.getD k default).all with h5|h5
  ·exact h5
  ·exact absurd ⟨by omega,.inr (by omega)⟩ this
theorem zqi (f:Fld) (a b:Cel) (hl:f.p.length≤9223372036854775807) {R:List Int} (hf:zb7 f=0) (ha:inF f a=true) (hb:inF f b=true) (hpa:zao f a≠1) (hpb:zao f b≠1) (hR:zat f [a] R) (h0:R.getD (zar f b) default<0):Spec Tryz.prog 160 [z3k f,zhv a,zhv b] [] (.tup [.c (.v (.pointer none)),I .i64 6]) []:=by
 obtain⟨W,H,s⟩:=yic (b:=b) hf ha hpa hR
 have hend:=s.end hf ha hb
 obtain⟨hw,hh,hW,hL,hFl,hAe,_⟩:=s
 have hA0:=As0 hw hh hW hf b ha
 have hmu0:=ykl f ⟨a,0,0+zbm b a⟩ (zby hf ha).2.2.2.2
 have hai:=inF_iff.1 ha
 have hbi:=inF_iff.1 hb
 have hfo:=zbs hf
 have hpx:=zby hf ha
 have hrunS:zle f b 8001 (List.replicate f.p.length (-1)) (zd4 Nod.all [] ⟨a,0,0+zbm b a⟩)=zc7 f a b:=rfl
 have hbF:zar f b<(zc7 f a b).1.length:=by rw[hAe.len];exact(zbp hw hh hW hf hb).2
 refine spB Tryz.func160 61 [.tmp 6,.tmp 7] Tryz.results160 ?_
 iterate 2(try simp(etaStruct := .none)only[push_cast,zab,seval,Int.ofNat_zero,hrunS,zaa _ _ _ hbF,zae];try refine xsu ?_)
 refine caP (zzs f a hl) ?_
 rw[znw hf,if_pos ha]
 iterate 2(try simp(etaStruct := .none)only[push_cast,zab,seval,Int.ofNat_zero,hrunS,zaa _ _ _ hbF,zae];try refine xsu ?_)
 refine cI (fun h1 => ?_) fun h1 => ?_
 ·exact absurd h1 (by decide)
 ·iterate 2(try simp(etaStruct := .none)only[push_cast,zab,seval,Int.ofNat_zero,hrunS,zaa _ _ _ hbF,zae];try refine xsu ?_)
  refine caP (zzs f b hl) ?_
  rw[znw hf,if_pos hb]
  iterate 2(try simp(etaStruct := .none)only[push_cast,zab,seval,Int.ofNat_zero,hrunS,zaa _ _ _ hbF,zae];try refine xsu ?_)
  refine cI (fun h2 => ?_) fun h2 => ?_
  ·exact absurd h2 (by decide)
  ·iterate 2(try simp(etaStruct := .none)only[push_cast,zab,seval,Int.ofNat_zero,hrunS,zaa _ _ _ hbF,zae];try refine xsu ?_)
   refine cI (fun h3 => ?_) fun h3 => ?_
   ·rcases h3 with h3|h3
    ·exact absurd h3 hpa
    ·exact absurd h3 hpb
   ·iterate 2(try simp(etaStruct := .none)only[push_cast,zab,seval,Int.ofNat_zero,hrunS,zaa _ _ _ hbF,zae];try refine xsu ?_)
    refine zcb [11] (zvd f.p.length (by omega) (by omega)) (WkL.refl _) rfl (by decide) (by simp[zay,zb1,zf9]) ?_
    iterate 2(try simp(etaStruct := .none)only[push_cast,zab,seval,Int.ofNat_zero,hrunS,zaa _ _ _ hbF,zae];try refine xsu ?_)
    (try(refine⟨by kernel_rfl,?_⟩))
    iterate 2(try simp(etaStruct := .none)only[push_cast,zab,seval,Int.ofNat_zero,hrunS,zaa _ _ _ hbF,zae];try refine xsu ?_)
    refine caM [35,27] (zvm f b (List.replicate f.p.length (-1)) a 0 (by omega) (by omega) (by omega) (by omega) (by omega)) ?_
    iterate 2(try simp(etaStruct := .none)only[push_cast,zab,seval,Int.ofNat_zero,hrunS,zaa _ _ _ hbF,zae];try refine xsu ?_)
    refine caM [35,27,43] (z9j f b hw hh hW hf hL hb (zar f a) 8001 (List.replicate f.p.length (-1)) (zd4 Nod.all [] ⟨a,0,0+zbm b a⟩) hA0 hmu0 (by decide)) ?_
    iterate 2(try simp(etaStruct := .none)only[push_cast,zab,seval,Int.ofNat_zero,hrunS,zaa _ _ _ hbF,zae];try refine xsu ?_)
    refine zcw (zes f b (zc7 f a b).1 (zc7 f a b).2 b hf hb) (WkL.refl _) rfl ?_
    iterate 2(try simp(etaStruct := .none)only[push_cast,zab,seval,Int.ofNat_zero,hrunS,zaa _ _ _ hbF,zae];try refine xsu ?_)
    (try(refine⟨by kernel_rfl,?_⟩))
    iterate 2(try simp(etaStruct := .none)only[push_cast,zab,seval,Int.ofNat_zero,hrunS,zaa _ _ _ hbF,zae];try refine xsu ?_)
    refine cI (fun h4 => ?_) fun h4 => ?_
    ·iterate 2(try simp(etaStruct := .none)only[push_cast,zab,seval,Int.ofNat_zero,hrunS,zaa _ _ _ hbF,zae];try refine xsu ?_)
     exact xrz rfl
    ·exact absurd (hend.1.2 h0) (by omega)
theorem zs3 (f:Fld) (a b:Cel) (hl:f.p.length≤9223372036854775807) {R:List Int} (hf:zb7 f=0) (ha:inF f a=true) (hb:inF f b=true) (hpa:zao f a≠1) (hpb:zao f b≠1) (hR:zat f [a] R) (h0:0≤R.getD (zar f b) default):Spec Tryz.prog 160 [z3k f,zhv a,zhv b] [] (.tup [.ptr 0 0 0,I .i64 0]) [srB f b (.own 1) (.own 2),.row 3 1 ((zc7 f a b).1.map zae),.row 327 4 ((zc7 f a b).2.map zb6)]:=by
 obtain⟨W,H,s⟩:=yic (b:=b) hf ha hpa hR
 have hend:=s.end hf ha hb
 obtain⟨hw,hh,hW,hL,hFl,hAe,_⟩:=s
 have hA0:=As0 hw hh hW hf b ha
 have hmu0:=ykl f ⟨a,0,0+zbm b a⟩ (zby hf ha).2.2.2.2
 have hai:=inF_iff.1 ha
 have hbi:=inF_iff.1 hb
 have hfo:=zbs hf
 have hpx:=zby hf ha
 have hrunS:zle f b 8001 (List.replicate f.p.length (-1)) (zd4 Nod.all [] ⟨a,0,0+zbm b a⟩)=zc7 f a b:=rfl
 have hbF:zar f b<(zc7 f a b).1.length:=by rw[hAe.len];exact(zbp hw hh hW hf hb).2
 refine spB Tryz.func160 61 [.tmp 6,.tmp 7] Tryz.results160 ?_
 iterate 2(try simp(etaStruct := .none)only[push_cast,zab,seval,Int.ofNat_zero,hrunS,zaa _ _ _ hbF,zae];try refine xsu ?_)
 refine caP (zzs f a hl) ?_
 rw[znw hf,if_pos ha]
 iterate 2(try simp(etaStruct := .none)only[push_cast,zab,seval,Int.ofNat_zero,hrunS,zaa _ _ _ hbF,zae];try refine xsu ?_)
 refine cI (fun h1 => ?_) fun h1 => ?_
 ·exact absurd h1 (by decide)
 ·iterate 2(try simp(etaStruct := .none)only[push_cast,zab,seval,Int.ofNat_zero,hrunS,zaa _ _ _ hbF,zae];try refine xsu ?_)
  refine caP (zzs f b hl) ?_
  rw[znw hf,if_pos hb]
  iterate 2(try simp(etaStruct := .none)only[push_cast,zab,seval,Int.ofNat_zero,hrunS,zaa _ _ _ hbF,zae];try refine xsu ?_)
  refine cI (fun h2 => ?_) fun h2 => ?_
  ·exact absurd h2 (by decide)
  ·iterate 2(try simp(etaStruct := .none)only[push_cast,zab,seval,Int.ofNat_zero,hrunS,zaa _ _ _ hbF,zae];try refine xsu ?_)
   refine cI (fun h3 => ?_) fun h3 => ?_
   ·rcases h3 with h3|h3
    ·exact absurd h3 hpa
    ·exact absurd h3 hpb
   ·iterate 2(try simp(etaStruct := .none)only[push_cast,zab,seval,Int.ofNat_zero,hrunS,zaa _ _ _ hbF,zae];try refine xsu ?_)
    refine zcb [11] (zvd f.p.length (by omega) (by omega)) (WkL.refl _) rfl (by decide) (by simp[zay,zb1,zf9]) ?_
    iterate 2(try simp(etaStruct := .none)only[push_cast,zab,seval,Int.ofNat_zero,hrunS,zaa _ _ _ hbF,zae];try refine xsu ?_)
    (try(refine⟨by kernel_rfl,?_⟩))
    iterate 2(try simp(etaStruct := .none)only[push_cast,zab,seval,Int.ofNat_zero,hrunS,zaa _ _ _ hbF,zae];try refine xsu ?_)
    refine caM [35,27] (zvm f b (List.replicate f.p.length (-1)) a 0 (by omega) (by omega) (by omega) (by omega) (by omega)) ?_
    iterate 2(try simp(etaStruct := .none)only[push_cast,zab,seval,Int.ofNat_zero,hrunS,zaa _ _ _ hbF,zae];try refine xsu ?_)
    refine caM [35,27,43] (z9j f b hw hh hW hf hL hb (zar f a) 8001 (List.replicate f.p.length (-1)) (zd4 Nod.all [] ⟨a,0,0+zbm b a⟩) hA0 hmu0 (by decide)) ?_
    iterate 2(try simp(etaStruct := .none)only[push_cast,zab,seval,Int.ofNat_zero,hrunS,zaa _ _ _ hbF,zae];try refine xsu ?_)
    refine zcw (zes f b (zc7 f a b).1 (zc7 f a b).2 b hf hb) (WkL.refl _) rfl ?_
    iterate 2(try simp(etaStruct := .none)only[push_cast,zab,seval,Int.ofNat_zero,hrunS,zaa _ _ _ hbF,zae];try refine xsu ?_)
    (try(refine⟨by kernel_rfl,?_⟩))
    iterate 2(try simp(etaStruct := .none)only[push_cast,zab,seval,Int.ofNat_zero,hrunS,zaa _ _ _ hbF,zae];try refine xsu ?_)
    refine cI (fun h4 => ?_) fun h4 => ?_
    ·exact absurd (hend.1.1 h4) (by omega)
    ·iterate 2(try simp(etaStruct := .none)only[push_cast,zab,seval,Int.ofNat_zero,hrunS,zaa _ _ _ hbF,zae];try refine xsu ?_)
     refine zbc [35,27,44] rfl rfl (by decide) ⟨?_,?_,?_,trivial⟩ trivial ?_<;>simp(etaStruct := .none)only[push_cast,zab,seval]
end Go.Proofs.YtmjbgbmegbkmhaaGreat
namespace Go.Proofs.YtmjbgbmegbkmhaaGreat
set_option linter.all false
open Go.RowKit
set_option maxRecDepth 100000
set_option maxHeartbeats 1000000
def z3s (l:List Sea) (T:List Nat):List Sea:=(List.range l.length).map fun i=>⟨(l.getD i default).waits.drop (T.getD i default),(zbz (l.getD i default)).late,(l.getD i default).gone⟩
theorem z3r (l:List Sea) (T:List Nat):(z3s l T).length=l.length:=by simp[z3s]
theorem z7t (l:List Sea) (T:List Nat) (i:Nat) (h:i<l.length):(z3s l T).getD i default=⟨(l.getD i default).waits.drop (T.getD i default),(zbz (l.getD i default)).late,(l.getD i default).gone⟩:=by
 rw[zag _ _ (by rw[z3r];exact h)]
 simp[z3s]
theorem zpd {α : Type} [Inhabited α] {l m:List α} (h:l.length=m.length) (h2:∀i,i<l.length→l.getD i default=m.getD i default):l=m:=by
 refine List.ext_getElem h fun i i1 i2 => ?_
 have:=h2 i i1
 rwa [zag _ _ i1,zag _ _ i2]at this
theorem zke {α : Type} [Inhabited α] (l:List α) (i j:Nat) (x : α) (h:i<l.length):(l.set i x).getD j default=if i=j then x else l.getD j default:=by
 by_cases e:i=j
 ·subst e;rw[if_pos rfl,zag _ _ (by simpa using h)];simp
 ·rw[if_neg e,List.getD_eq_getElem?_getD,List.getElem?_set_ne e,List.getD_eq_getElem?_getD]
def TkQ (most:Int) (l:List Sea) (k i:Nat) (o:List Ord) (U:List Nat):Prop :=
 U.length=l.length∧o.length≤100∧(∀j,j<l.length→U.getD j default≤(l.getD j default).waits.length) ∧
 ((o.length:Int)<most→∀j,j<l.length→U.getD j default=if j<i then min (k+1) (l.getD j default).waits.length else min k (l.getD j default).waits.length)
theorem TkQ.t {most:Int} {l:List Sea} {k i:Nat} {o:List Ord} {U:List Nat} (h:TkQ most l k i o U) (hi:i<l.length) (hk:k<(l.getD i default).waits.length) (hm:(o.length:Int)<most) (hm2:most≤100) (x:Ord) :
 U.getD i default=k∧TkQ most l k (i+1) (o ++ [x]) (U.set i (k+1)):=by
 obtain⟨h1,h2,h3,h4⟩:=h
 have e:=h4 hm i hi
 rw[if_neg (by omega),Nat.min_eq_left (by omega)]at e
 refine⟨e,by simp[h1],by simp;omega,fun j hj => ?_,fun hm' j hj => ?_⟩
 ·rw[zke _ _ _ _ (by omega)]
  split
  ·rename_i e';subst e';omega
  ·exact h3 j hj
 ·have:=h4 hm j hj
  rw[zke _ _ _ _ (by omega)]
  by_cases e':i=j
  ·subst e';rw[if_pos rfl,if_pos (by omega)];omega
  ·rw[if_neg e',this]
   by_cases e2:j<i
   ·rw[if_pos e2,if_pos (by omega)]
   ·rw[if_neg e2,if_neg (by omega)]
theorem TkQ.f {most:Int} {l:List Sea} {k i:Nat} {o:List Ord} {U:List Nat} (h:TkQ most l k i o U) (hi:i<l.length) (hc:¬(k<(l.getD i default).waits.length∧(o.length:Int)<most)):TkQ most l k (i+1) o U∧¬(0<((z3s l U).getD i default).waits.length∧(o.length:Int)<most):=by
 obtain⟨h1,h2,h3,h4⟩:=h
 refine⟨⟨h1,h2,h3,fun hm j hj => ?_⟩,?_⟩
 ·rw[h4 hm j hj]
  by_cases e:j=i
  ·subst e;rw[if_neg (by omega),if_pos (by omega)];omega
  ·by_cases e2:j<i
   ·rw[if_pos e2,if_pos (by omega)]
   ·rw[if_neg e2,if_neg (by omega)]
 ·rw[z7t _ _ _ hi]
  simp only[List.length_drop]
  rintro⟨h5,h6⟩
  have:=h4 h6 i hi
  rw[if_neg (by omega)]at this
  omega
theorem TkQ.next {most:Int} {l:List Sea} {k:Nat} {o:List Ord} {U:List Nat} (h:TkQ most l k l.length o U):TkQ most l (k+1) 0 o U:=by
 obtain⟨h1,h2,h3,h4⟩:=h
 refine⟨h1,h2,h3,fun hm j hj => ?_⟩
 rw[h4 hm j hj,if_pos hj,if_neg (by omega)]
theorem TkQ.zero (most:Int) (l:List Sea):TkQ most l 0 0 [] (List.replicate l.length 0):=by
 refine⟨by simp,by simp,fun j hj => ?_,fun _ j hj => ?_⟩<;>rw[zag _ _ (by simpa using hj)]<;>simp
end Go.Proofs.YtmjbgbmegbkmhaaGreat
namespace Go.Proofs.YtmjbgbmegbkmhaaGreat
set_option linter.all false
open Go.RowKit
set_option maxRecDepth 100000
set_option maxHeartbeats 2000000
def zs9 {α : Type} [Inhabited α] (k:Nat) (l:List α):List α := (List.range l.length).map fun i=>if i<k∨l.length-k≤i then l.getD (l.length-1-i) default else l.getD i default
theorem zeb {α : Type} [Inhabited α] (k:Nat) (l:List α):(zs9 k l).length=l.length:=by simp[zs9]
theorem zgt {α : Type} [Inhabited α] (k:Nat) (l:List α) (i:Nat) (hi:i<l.length):(zs9 k l).getD i default=if i<k∨l.length-k≤i then l.getD (l.length-1-i) default else l.getD i default:=by
 rw[zag _ _ (by rw[zeb];exact hi)];simp[zs9]
theorem z00 {α : Type} [Inhabited α] (l:List α):zs9 0 l=l:=by
 refine zpd (zeb 0 l) fun i hi => ?_
 rw[zeb]at hi
 rw[zgt 0 l i hi,if_neg (by omega)]
theorem z01 {α : Type} [Inhabited α] (l:List α) (k:Nat) (h:2*k+1<l.length):zs9 (k+1) l=((zs9 k l).set k ((zs9 k l).getD (l.length-1-k) default)).set (l.length-1-k) ((zs9 k l).getD k default):=by
 have hrl:=zeb k l
 refine zpd (by simp[zeb]) fun i hi => ?_
 rw[zeb]at hi
 rw[zke _ _ _ _ (by rw[List.length_set];omega),zke _ _ _ _ (by omega),zgt _ l i hi,zgt k l k (by omega),zgt k l (l.length-1-k) (by omega),zgt k l i hi]
 rw[if_neg (show ¬(l.length-1-k<k∨l.length-k≤l.length-1-k)by omega),if_neg (show ¬(k<k∨l.length-k≤k)by omega)]
 by_cases e1:l.length-1-k=i
 ·rw[if_pos e1,if_pos (by omega)];congr 1;omega
 ·rw[if_neg e1]
  by_cases e2:k=i
  ·rw[if_pos e2,if_pos (by omega)];congr 1;omega
  ·rw[if_neg e2]
   by_cases e3:i<k∨l.length-k≤i
   ·rw[if_pos e3,if_pos (by omega)]
   ·rw[if_neg e3,if_neg (by omega)]
theorem z51 {α : Type} [Inhabited α] (l:List α) (k:Nat) (h:l.length≤2*k+1):zs9 k l=l.reverse:=by
 refine zpd (by rw[zeb,List.length_reverse]) fun i hi => ?_
 rw[zeb]at hi
 rw[zgt k l i hi,zag _ _ (show i<l.reverse.length by simpa using hi),List.getElem_reverse,←zag l _ (show l.length-1-i<l.length by omega)]
 by_cases e3:i<k∨l.length-k≤i
 ·rw[if_pos e3]
 ·rw[if_neg e3];congr 1;omega
theorem ydt (l:List Cel) (hl:l.length≤1000000):Spec Tryz.prog 164 [.own 0] [.row 46 2 (l.map zbb)] (.tup []) [.row 46 2 (l.reverse.map zbb)]:=by
 refine spB Tryz.func164 28 [] Tryz.results164 ?_
 try refine xst ?_
 refine za3 (fun k:Nat=>⟨[(3,I .i64 ((l.length:Int)-1-k)),(2,I .i64 k),(0,.own 0)],[(0,.row 46 2 ((zs9 k l).map zbb))],1⟩) (fun k:Nat=>2*k≤l.length) (fun k:Nat=>l.length-k) (0) (Nat.zero_le _) (To.mk [0] rfl rfl (by decide) ?_ ?_) ?_
 ·simp(etaStruct := .none)only[push_cast,zab,seval,z00]
 ·(iterate 2((try simp(etaStruct := .none)only[push_cast,zab,seval,Int.ofNat_zero,Int.sub_zero]);(try(refine xsu ?_;try exact xtI))))
 rintro k hk
 have hrl:=zeb k l
 try refine xst ?_
 refine cI (fun h1 => ?_) fun h1 => ?_
 ·obtain⟨j,hj⟩:∃j:Nat,(l.length:Int)-1-k=(j:Int):=Int.eq_ofNat_of_zero_le (by omega)
  have hjn:j=l.length-1-k:=by omega
  have hs:=z01 l k (by omega)
  rw[←hjn]at hs
  have hk1:k<(zs9 k l).length:=by omega
  have hj1:j<(zs9 k l).length:=by omega
  have hj2:j<((zs9 k l).set k ((zs9 k l).getD j default)).length:=by rw[List.length_set];omega
  iterate 2(try simp(etaStruct := .none)only[push_cast,zab,seval,hj,zaa _ _ _ hk1,zaa _ _ _ hj1,zbb,List.length_set];try refine xsu ?_)
  (try(refine⟨by kernel_rfl,?_⟩))
  iterate 2(try simp(etaStruct := .none)only[push_cast,zab,seval,hj,zaa _ _ _ hk1,zaa _ _ _ hj1,zbb,List.length_set];try refine xsu ?_)
  refine⟨k+1,by omega,by omega,To.mk [0] rfl rfl (by decide) ?_ ?_⟩
  ·(iterate 2((try simp(etaStruct := .none)only[push_cast,zab,seval,hs,List.map_set,zbb]);(try(refine xsu ?_;try exact xtI))))
  ·have e1:(j:Int)-1=(l.length:Int)-1-((k:Int)+1):=by omega
   (try(refine xz1 e1 ?_;try exact xtI))
 ·have hr:=z51 l k (by omega)
  try refine xst ?_
  refine zbc [0] rfl rfl (by decide) ⟨?_,trivial⟩ trivial ?_<;>simp(etaStruct := .none)only[push_cast,zab,seval,hr]
def yh9 (R:List Int) (f:Fld) (a b:Cel):Int:=if zmk R f a b=0 then R.getD (zar f b) default else 0
theorem zxo (R:List Int) (f:Fld) (a b:Cel):(zmk R f a b≠0∧(zb7 f≠0∨¬(inF f a=true∧inF f b=true)∨zao f a=1∨zao f b=1))∨(zb7 f=0∧inF f a=true∧inF f b=true∧zao f a≠1∧zao f b≠1∧((zmk R f a b=6∧R.getD (zar f b) default<0)∨(zmk R f a b=0∧0≤R.getD (zar f b) default))):=by
 unfold zmk
 by_cases h1:zb7 f=0
 ·rw[if_neg (by simp[h1])]
  by_cases h2:inF f a=true∧inF f b=true
  ·rw[if_neg (fun h=>h h2)]
   by_cases h3:zao f a=1∨zao f b=1
   ·rw[if_pos h3];exact .inl ⟨by decide,.inr (.inr h3)⟩
   ·rw[if_neg h3]
    refine .inr ⟨h1,h2.1,h2.2,fun h=>h3 (.inl h),fun h=>h3 (.inr h),?_⟩
    by_cases h4:R.getD (zar f b) default<0
    ·rw[if_pos h4];exact .inl ⟨rfl,h4⟩
    ·rw[if_neg h4];exact .inr ⟨rfl,by omega⟩
  ·rw[if_pos h2];exact .inl ⟨by decide,.inr (.inl h2)⟩
 ·rw[if_pos h1];exact .inl ⟨h1,.inl h1⟩
def PP (f:Fld) (far:List Int) (c n:Cel):Prop:=(zda f n).2=true∧0≤far.getD (zar f n) default∧far.getD (zar f n) default+kV (zao f c)=far.getD (zar f c) default
instance (f:Fld) (far:List Int) (c n:Cel):Decidable (PP f far c n):=by unfold PP;infer_instance
section
variable {f : Fld} {a b c : Cel} {R : List Int} {W H : Nat}
theorem z4y (s:Srch f a b R W H) (hf:zb7 f=0) (hpa:zao f a≠1) (hc:inF f c=true) (h0:0≤R.getD (zar f c) default):zda f c=(kV (zao f c),true):=by
 have epl:zao f c=f.p.getD (zar f c) default:=rfl
 have:zao f c≠1:=by
  rw[epl]
  rcases s.r.why _ (zbp s.w s.h s.w0 hf hc).2 h0 with ⟨w1,_⟩|⟨_,_,_,hr,_⟩
  ·rw[List.mem_singleton]at w1;rw[w1];exact hpa
  ·exact hr
 unfold zda
 rw[if_pos hc,if_neg this]
theorem z9k (s:Srch f a b R W H) (hf:zb7 f=0) (ha:inF f a=true) (hb:inF f b=true) (hpa:zao f a≠1) (hc:inF f c=true) (h0:0≤R.getD (zar f c) default) (hb0:0≤R.getD (zar f b) default) (hcb:R.getD (zar f c) default+zbm b c≤R.getD (zar f b) default) (hfc:(zc7 f a b).1.getD (zar f c) default=R.getD (zar f c) default) {n:Cel} (hn:n∈zal c) :
 PP f (zc7 f a b).1 c n↔(inF f n=true∧zvw R f c n=true) :=
 ybg s.w s.h s.w0 hf s.l s.r ha hpa hc h0 s.ass hcb ((s.end hf ha hb).2 hb0).2 hfc hn
theorem z55 (s:Srch f a b R W H) (hf:zb7 f=0) (ha:inF f a=true) (hb:inF f b=true) (hpa:zao f a≠1) (hc:inF f c=true) (h0:0≤R.getD (zar f c) default) (hb0:0≤R.getD (zar f b) default) (hcb:R.getD (zar f c) default+zbm b c≤R.getD (zar f b) default) (hfc:(zc7 f a b).1.getD (zar f c) default=R.getD (zar f c) default)
 {k:Nat} (hk:k<4) (hn:∀i,i<k→¬PP f (zc7 f a b).1 c ((zal c).getD i default)) (hp:PP f (zc7 f a b).1 c ((zal c).getD k default)):(zal c).getD k default=zmq R f c:=by
 have h4:(zal c).length=4:=rfl
 have e1:(zal c).find? (fun n=>decide (PP f (zc7 f a b).1 c n))=some ((zal c).getD k default):=by
  rw[List.find?_eq_some_iff_getElem]
  refine⟨by simpa using hp,k,by omega,(zag _ _ (by omega)).symm,fun j hj => ?_⟩
  have:=hn j hj
  rw[zag _ _ (by omega)]at this
  simpa using this
 have e2:=zy7 (f:=f) (R:=R) (c:=c) (p:=fun n=>decide (PP f (zc7 f a b).1 c n)) fun n hn=>by
  have:=z9k s hf ha hb hpa hc h0 hb0 hcb hfc hn
  rw[Bool.eq_iff_iff,decide_eq_true_eq,Bool.and_eq_true];exact this
 rw[e1]at e2
 unfold zmq
 rw[←e2];rfl
theorem yj8 (s:Srch f a b R W H) (hf:zb7 f=0) (ha:inF f a=true) (hb:inF f b=true) (hpa:zao f a≠1) (hc:inF f c=true) (h0:0≤R.getD (zar f c) default) (hb0:0≤R.getD (zar f b) default) (hcb:R.getD (zar f c) default+zbm b c≤R.getD (zar f b) default) (hfc:(zc7 f a b).1.getD (zar f c) default=R.getD (zar f c) default)
 (hca:c≠a) (hn:∀i,i<4→¬PP f (zc7 f a b).1 c ((zal c).getD i default)):False:=by
 obtain⟨_,hm,hin,_,h1,h2⟩:=z1q s.w s.h s.w0 hf s.l s.r ha hc hca h0
 have hms:=(List.mem_filter.1 hm).1
 obtain⟨i,hi,e⟩:=mem_getD.1 hms
 refine hn i hi ?_
 rw[←e]at hms
 rw[z9k s hf ha hb hpa hc h0 hb0 hcb hfc hms,e]
 exact⟨hin,by unfold zvw;rw[Bool.and_eq_true,decide_eq_true_eq,decide_eq_true_eq];exact⟨h1,h2⟩⟩
theorem z6k (s:Srch f a b R W H) (hf:zb7 f=0) (ha:inF f a=true) (hb:inF f b=true) (hc:inF f c=true) (h0:0≤R.getD (zar f c) default) (hb0:0≤R.getD (zar f b) default) (hcb:R.getD (zar f c) default+zbm b c≤R.getD (zar f b) default) (hca:c≠a) :
 inF f (zmq R f c)=true∧0≤R.getD (zar f (zmq R f c)) default∧R.getD (zar f (zmq R f c)) default+2≤R.getD (zar f c) default∧R.getD (zar f (zmq R f c)) default+zbm b (zmq R f c)≤R.getD (zar f b) default∧(zc7 f a b).1.getD (zar f (zmq R f c)) default=R.getD (zar f (zmq R f c)) default:=by
 obtain⟨_,hm,hin,hadj,h1,h2⟩:=z1q s.w s.h s.w0 hf s.l s.r ha hc hca h0
 have hkv:=zzp (zao f c)
 have hcons:=zo4 s.w s.h s.w0 b
 rw[←s.l]at hcons
 obtain⟨en,hnL⟩:=zbp s.w s.h s.w0 hf hin
 obtain⟨ec,hcL⟩:=zbp s.w s.h s.w0 hf hc
 have hle:=hcons _ _ hnL hcL hadj.symm
 simp only at hle
 rw[←en,←ec]at hle
 refine⟨hin,h1,by omega,by omega,?_⟩
 exact s.ass.known hcons (zbp s.w s.h s.w0 hf ha).2 s.r hnL h1 (fun x hx=>by have:=((s.end hf ha hb).2 hb0).2 x hx;rw[←en];omega)
theorem z9e (s:Srch f a b R W H) (hl:f.p.length≤1600) (p:Nat) (hp:p<f.p.length) : -1≤(zc7 f a b).1.getD p default∧(zc7 f a b).1.getD p default≤4800:=by
 have h1:=s.ass.low p hp
 have h2:=s.ass.top p hp
 have h3:=zhi ze9 1 zhl (zc7 f a b).1
 rw[s.ass.len]at h3
 omega
end
theorem cel_ne {c a:Cel} : ¬(c.x=a.x∧c.y=a.y)↔c≠a:=by
 obtain⟨x,y⟩:=c;obtain⟨u,v⟩:=a;simp
theorem z06 (f:Fld) (a b:Cel) (hl:f.p.length≤9223372036854775807) (R:List Int) (hR:zat f [a] R):Spec Tryz.prog 134 [z3k f,zhv a,zhv b] [] (.tup [.c (.sl 2 ((if zmk R f a b=0 then yec R f a b else []).map zbb)),I .i64 (yh9 R f a b),I .i64 (zmk R f a b)]) []:=by
 rcases zxo R f a b with ⟨hE,hbad⟩|⟨hf,ha,hb,hpa,hpb,⟨hE,h0⟩|⟨hE,h0⟩⟩
 ·have e:yh9 R f a b=0:=if_neg hE
  rw[if_neg hE]
  refine spB Tryz.func134 107 [.tmp 6,.tmp 7,.tmp 8] Tryz.results134 ?_
  try refine xst ?_
  refine caP (zs4 f a b hl hbad R) ?_
  try refine xst ?_
  refine cI (fun h1 => ?_) fun h1 => ?_
  ·skip
   try refine xst ?_
   (first|(refine zaz rfl (Wk.of ?_);(try simp(etaStruct := .none)only[push_cast,zab,seval]);first|done|(simp[e, *];done)|(simp_all[e];done))|(refine zaz rfl ?_;(try simp(etaStruct := .none)only[push_cast,zab,seval]);(try simp[e, *]);(try exact wkc)))
  ·exact absurd h1 hE
 ·have e:yh9 R f a b=0:=if_neg (by rw[hE];decide)
  rw[e,hE,if_neg (by decide)]
  refine spB Tryz.func134 107 [.tmp 6,.tmp 7,.tmp 8] Tryz.results134 ?_
  try refine xst ?_
  refine caP (zqi f a b hl hf ha hb hpa hpb hR h0) ?_
  try refine xst ?_
  refine cI (fun h1 => ?_) fun h1 => ?_
  ·try refine xst ?_
   exact xrz rfl
  ·exact absurd h1 (by decide)
 ·have e:yh9 R f a b=R.getD (zar f b) default:=if_pos hE
  obtain⟨W,H,s⟩:=yic (b:=b) hf ha hpa hR
  have hend:=(s.end hf ha hb).2 h0
  have hbF:zar f b<(zc7 f a b).1.length:=by rw[s.ass.len];exact(zbp s.w s.h s.w0 hf hb).2
  have hpx:=zby hf ha
  rw[e,hE,if_pos rfl]
  refine spB Tryz.func134 107 [.tmp 6,.tmp 7,.tmp 8] Tryz.results134 ?_
  (iterate 2((try simp(etaStruct := .none)only[push_cast,seval]);(try(refine xsu ?_;try exact xtI))))
  refine caM [] (zs3 f a b hl hf ha hb hpa hpb hR h0) ?_
  (iterate 2((try simp(etaStruct := .none)only[push_cast,seval]);(try(refine xsu ?_;try exact xtI))))
  refine cI (fun h1 => ?_) fun h1 => ?_
  ·exact absurd h1 (by decide)
  ·(iterate 2((try simp(etaStruct := .none)only[push_cast,seval]);(try(refine xsu ?_;try exact xtI))))
   refine za3 (fun x:Nat × Cel × List Cel=>⟨[(12,.ptr 5 0 0),(11,.own 6),(9,.ptr 0 0 0),(5,.ptr 4 0 0),(4,.ptr 3 0 0)],[(0,srB f b (.own 1) (.own 2)),(1,.row 3 1 ((zc7 f a b).1.map zae)),(2,.row 327 4 ((zc7 f a b).2.map zb6)),(3,.blk 46 [I .i64 a.x,I .i64 a.y]),(4,.blk 46 [I .i64 b.x,I .i64 b.y]),(5,.blk 46 [I .i64 x.2.1.x,I .i64 x.2.1.y]),(6,.row 46 2 (x.2.2.map zbb))],7⟩) (fun x:Nat × Cel × List Cel=>inF f x.2.1=true∧0≤R.getD (zar f x.2.1) default∧R.getD (zar f x.2.1) default≤x.1∧(zc7 f a b).1.getD (zar f x.2.1) default=R.getD (zar f x.2.1) default∧R.getD (zar f x.2.1) default+zbm b x.2.1≤R.getD (zar f b) default∧x.2.2++zzw R f a x.1 x.2.1=b::zzw R f a (R.getD (zar f b) default).toNat b∧x.2.2.length+x.1≤4801) (fun x:Nat × Cel × List Cel=>x.1) (((R.getD (zar f b) default).toNat,b,[b])) (⟨hb,h0,by simp only;omega,hend.1,by simp only[zbm];omega,rfl,by have:=(z9e s hpx.2.2.2.2 _ (show zar f b<f.p.length by rw[←s.ass.len];exact hbF)).2;rw[hend.1]at this;simp only[List.length_singleton];omega⟩) (To.mk [3,4,5,1,2,7,6] rfl rfl (by decide) ?_ ?_) ?_
   ·(iterate 2((try simp(etaStruct := .none)only[push_cast,zab,seval,srB,zbb]);(try(refine xsu ?_;try exact xtI))))
   ·simp(etaStruct := .none)only[push_cast,zab,seval]
   rintro⟨N,c,out⟩ ⟨hc,hc0,hcN,hfc,hcb,hway,hlen⟩
   simp only at hc hc0 hcN hfc hcb hway hlen
   (iterate 2((try simp(etaStruct := .none)only[push_cast,seval]);(try(refine xsu ?_;try exact xtI))))
   refine cI (fun h2 => ?_) fun h2 => ?_
   ·have hca:c≠a:=cel_ne.1 (fun h=>by rcases h2 with h2|h2;exact h2 h.1;exact h2 h.2)
    have hwc:=z4y s hf hpa hc hc0
    have hci:=inF_iff.1 hc
    have hfo:=zbs hf
    have hkv:=zzp (zao f c)
    have hcF:zar f c<(zc7 f a b).1.length:=by rw[s.ass.len];exact(zbp s.w s.h s.w0 hf hc).2
    obtain⟨n1,n2,n3,n4,n5⟩:=z6k s hf ha hb hc hc0 h0 hcb hca
    obtain⟨M,rfl⟩:∃M,N=M+1:=⟨N-1,by omega⟩
    (iterate 2((try simp(etaStruct := .none)only[push_cast,seval]);(try(refine xsu ?_;try exact xtI))))
    refine zcw (ztf f b (zc7 f a b).1 (zc7 f a b).2 c hf) (WkL.refl _) rfl ?_
    rw[hwc]
    (iterate 2((try simp(etaStruct := .none)only[push_cast,seval]);(try(refine xsu ?_;try exact xtI))))
    refine caP (zvl c (by omega) (by omega)) ?_
    (iterate 2((try simp(etaStruct := .none)only[push_cast,seval]);(try(refine xsu ?_;try exact xtI))))
    refine za3 (fun k:Nat=>⟨[(43,I .i64 k),(42,.agg [I .i64 c.x,I .i64 (c.y-1),I .i64 (c.x-1),I .i64 c.y,I .i64 (c.x+1),I .i64 c.y,I .i64 c.x,I .i64 (c.y+1)]),(13,I .i64 (kV (zao f c))),(12,.ptr 5 0 0),(11,.own 6),(9,.ptr 0 0 0),(5,.ptr 4 0 0),(4,.ptr 3 0 0)],[(0,srB f b (.own 1) (.own 2)),(1,.row 3 1 ((zc7 f a b).1.map zae)),(2,.row 327 4 ((zc7 f a b).2.map zb6)),(3,.blk 46 [I .i64 a.x,I .i64 a.y]),(4,.blk 46 [I .i64 b.x,I .i64 b.y]),(5,.blk 46 [I .i64 c.x,I .i64 c.y]),(6,.row 46 2 (out.map zbb))],7⟩) (fun k:Nat=>k≤4∧∀i,i<k→¬PP f (zc7 f a b).1 c ((zal c).getD i default)) (fun k:Nat=>4-k) (0) (⟨Nat.zero_le _,fun i h=>absurd h (Nat.not_lt_zero _)⟩) (To.mk [0,1,2,3,4,5,6] rfl rfl (by decide) ?_ ?_) ?_
    ·simp(etaStruct := .none)only[push_cast,zab,seval]
    ·simp(etaStruct := .none)only[push_cast,zab,seval]
    rintro k ⟨hk,hno⟩
    (iterate 2((try simp(etaStruct := .none)only[push_cast,seval]);(try(refine xsu ?_;try exact xtI))))
    refine cI (fun h3 => ?_) fun h3 => ?_
    ·have hlt:k<4:=by omega
     have hsc:=zk8 c k hlt
     have hgG:yct f ((zal c).getD k default)<(zc7 f a b).1.length:=by rw[s.ass.len];exact z2r hf _
     have hbG:=z9e s hpx.2.2.2.2 (yct f ((zal c).getD k default)) (by rw[←s.ass.len];exact hgG)
     (iterate 2((try simp(etaStruct := .none)only[push_cast,seval,hsc,zaa _ _ _ hgG,zaa _ _ _ hcF,zae]);(try(refine xsu ?_;try exact xtI))))
     refine zcw (ztf f b (zc7 f a b).1 (zc7 f a b).2 ((zal c).getD k default) hf) (WkL.refl _) rfl ?_
     (iterate 2((try simp(etaStruct := .none)only[push_cast,seval,hsc,zaa _ _ _ hgG,zaa _ _ _ hcF,zae]);(try(refine xsu ?_;try exact xtI))))
     refine zbw [some 52,some 53,some 54,some 55,some 56,some 57,some 58,some 59,some 60,some 61,some 62,some 63,some 64,some 65,some 66,some 67,some 68,some 69,some 70,some 71,some 72,some 73,some 74,some 75,some 76,some 77,some 78,some 79,some 80,some 81,some 82,some 83,some 84,some 85,some 86,some 87] rfl ?_
     intro Oq lq Rq hlq hdq hRq
     subst hlq
     iterate 8(refine za6 fun rq hrq => ?_;(iterate 2((try simp(etaStruct := .none)only[push_cast,seval,hdq,id,hsc,zaa _ _ _ hgG,zaa _ _ _ hcF,zae]);(try(refine xsu ?_;try exact xtI))));subst hrq)
     refine za6 fun rq hrq => ?_
     (iterate 2((try simp(etaStruct := .none)only[push_cast,seval,hdq,id,hsc,zaa _ _ _ hgG,zaa _ _ _ hcF,zae]);(try(refine xsu ?_;try exact xtI))))
     refine zl8 (fun hcc=>zlj f b (zc7 f a b).1 (zc7 f a b).2 ((zal c).getD k default) hf hcc) (WkL.refl _) rfl (by intro hc;(try simp(etaStruct := .none)only[push_cast,zab,seval]);(try simp_all)) ?_
     (iterate 2((try simp(etaStruct := .none)only[push_cast,seval,hdq,id,hsc,zaa _ _ _ hgG,zaa _ _ _ hcF,zae]);(try(refine xsu ?_;try exact xtI))))
     subst hrq
     iterate 11(refine za6 fun rq hrq => ?_;(iterate 2((try simp(etaStruct := .none)only[push_cast,seval,hdq,id,hsc,zaa _ _ _ hgG,zaa _ _ _ hcF,zae]);(try(refine xsu ?_;try exact xtI))));subst hrq)
     refine za6 fun rq hrq => ?_
     (iterate 2((try simp(etaStruct := .none)only[push_cast,seval,hdq,id,hsc,zaa _ _ _ hgG,zaa _ _ _ hcF,zae]);(try(refine xsu ?_;try exact xtI))))
     refine zl8 (fun hcc=>zlj f b (zc7 f a b).1 (zc7 f a b).2 ((zal c).getD k default) hf (by simp only[Bool.and_eq_true]at hcc;exact hcc.1)) (WkL.refl _) rfl (by intro hc;(try simp(etaStruct := .none)only[push_cast,zab,seval]);(try simp_all)) ?_
     (iterate 2((try simp(etaStruct := .none)only[push_cast,seval,hdq,id,hsc,zaa _ _ _ hgG,zaa _ _ _ hcF,zae]);(try(refine xsu ?_;try exact xtI))))
     subst hrq
     iterate 10(refine za6 fun rq hrq => ?_;(iterate 2((try simp(etaStruct := .none)only[push_cast,seval,hdq,id,hsc,zaa _ _ _ hgG,zaa _ _ _ hcF,zae]);(try(refine xsu ?_;try exact xtI))));subst hrq)
     refine za6 fun rq hrq => ?_
     (iterate 2((try simp(etaStruct := .none)only[push_cast,seval,hdq,id,hsc,zaa _ _ _ hgG,zaa _ _ _ hcF,zae]);(try(refine xsu ?_;try exact xtI))))
     refine zl8 (fun hcc=>zes f b (zc7 f a b).1 (zc7 f a b).2 c hf hc) (WkL.refl _) rfl (by intro hc;(try simp(etaStruct := .none)only[push_cast,zab,seval]);(try simp_all)) ?_
     (iterate 2((try simp(etaStruct := .none)only[push_cast,seval,hdq,id,hsc,zaa _ _ _ hgG,zaa _ _ _ hcF,zae]);(try(refine xsu ?_;try exact xtI))))
     subst hrq
     iterate 4(refine za6 fun rq hrq => ?_;(iterate 2((try simp(etaStruct := .none)only[push_cast,seval,hdq,id,hsc,zaa _ _ _ hgG,zaa _ _ _ hcF,zae]);(try(refine xsu ?_;try exact xtI))));subst hrq)
     refine zmu ?_
     subst hRq
     clear hdq Oq
     refine zmt (by kernel_rfl) ?_
     (iterate 2((try simp(etaStruct := .none)only[push_cast,seval,hsc,zaa _ _ _ hgG,zaa _ _ _ hcF,zae]);(try(refine xsu ?_;try exact xtI))))
     refine cI (fun h4 => ?_) fun h4 => ?_
     ·have hin2:inF f ((zal c).getD k default)=true:=by
       cases hi:inF f ((zal c).getD k default)with
       | true=>rfl
       | false=>have:=h4.1.1;unfold zda at this;rw[hi]at this;simp at this
      have hPP:PP f (zc7 f a b).1 c ((zal c).getD k default):=⟨h4.1.1,by rw[←zji hin2];exact h4.1.2,by rw[←zji hin2];exact h4.2⟩
      have hnk:=z55 s hf ha hb hpa hc hc0 h0 hcb hfc hlt hno hPP
      rw[zzw,if_neg hca]at hway
      (iterate 2((try simp(etaStruct := .none)only[push_cast,seval,hsc,zaa _ _ _ hgG,zaa _ _ _ hcF,zae,hnk]);(try(refine xsu ?_;try exact xtI))))
      refine⟨(M,zmq R f c,out ++ [zmq R f c]),⟨n1,n2,by simp only;omega,n5,n4,by simp only;rw[List.append_assoc];exact hway,by simp only[List.length_append,List.length_singleton];omega⟩,by simp only;omega,To.mk [0,1,2,3,4,154,153] rfl rfl (by decide) ?_ ?_⟩
      ·(iterate 2((try simp(etaStruct := .none)only[push_cast,zab,seval,List.map_append,zbb]);(try(refine xsu ?_;try exact xtI))))
      ·(iterate 2((try simp(etaStruct := .none)only[push_cast,seval,hsc,zaa _ _ _ hgG,zaa _ _ _ hcF,zae,hnk]);(try(refine xsu ?_;try exact xtI))))
     ·have hno2:∀i,i<k+1→¬PP f (zc7 f a b).1 c ((zal c).getD i default):=fun i hi=>by
       rcases Nat.lt_or_ge i k with h|h
       ·exact hno i h
       ·obtain rfl:i=k:=by omega
        rintro⟨p1,p2,p3⟩
        have hin2:inF f ((zal c).getD i default)=true:=by
         cases hi:inF f ((zal c).getD i default)with
         | true=>rfl
         | false=>unfold zda at p1;rw[hi]at p1;simp at p1
        rw[←zji hin2]at p2 p3
        rcases h4 with (h4|h4)|h4
        ·rw[p1]at h4;exact absurd h4 (by decide)
        ·omega
        ·exact h4 p3
      (iterate 2((try simp(etaStruct := .none)only[push_cast,seval,hsc,zaa _ _ _ hgG,zaa _ _ _ hcF,zae]);(try(refine xsu ?_;try exact xtI))))
      refine⟨k+1,⟨by omega,hno2⟩,by omega,To.mk [0,1,2,3,4,5,6] rfl rfl (by decide) ?_ ?_⟩
      ·(iterate 2((try simp(etaStruct := .none)only[push_cast,seval,hsc,zaa _ _ _ hgG,zaa _ _ _ hcF,zae]);(try(refine xsu ?_;try exact xtI))))
      ·(iterate 2((try simp(etaStruct := .none) (maxSteps:=1000000)only[push_cast,zab,seval]);(try(refine xsu ?_;try exact xtI))))
    ·obtain rfl:k=4:=by omega
     exact(yj8 s hf ha hb hpa hc hc0 h0 hcb hfc hca hno).elim
   ·have hca:c=a:=Decidable.byContradiction fun h=>cel_ne.2 h h2
    have hout:out=b::zzw R f a (R.getD (zar f b) default).toNat b:=by
     have e0:zzw R f a N c = []:=by
      cases N with
      | zero=>rfl
      | succ N=>rw[zzw,if_pos hca]
     rw[←hway,e0,List.append_nil]
    have hov:out.reverse=yec R f a b:=by unfold yec;rw[hout]
    (iterate 2((try simp(etaStruct := .none)only[push_cast,seval,zaa _ _ _ hbF,zae,hend.1,hov]);(try(refine xsu ?_;try exact xtI))))
    refine caM [6] (ydt out (by omega)) ?_
    (iterate 2((try simp(etaStruct := .none)only[push_cast,seval,zaa _ _ _ hbF,zae,hend.1,hov]);(try(refine xsu ?_;try exact xtI))))
    refine zbw [some 97,some 98,some 99,some 100,some 101,some 102,some 103,some 104,some 105,some 106,some 6,some 7,some 8] rfl ?_
    intro Oq lq Rq hlq hdq hRq
    subst hlq
    iterate 7(refine za6 fun rq hrq => ?_;(iterate 2((try simp(etaStruct := .none)only[push_cast,seval,hdq,id,zaa _ _ _ hbF,zae,hend.1,hov]);(try(refine xsu ?_;try exact xtI))));subst hrq)
    refine za6 fun rq hrq => ?_
    (iterate 2((try simp(etaStruct := .none)only[push_cast,seval,hdq,id,zaa _ _ _ hbF,zae,hend.1,hov]);(try(refine xsu ?_;try exact xtI))))
    refine zcw (zes f b (zc7 f a b).1 (zc7 f a b).2 b hf hb) (WkL.refl _) rfl ?_
    (iterate 2((try simp(etaStruct := .none)only[push_cast,seval,hdq,id,zaa _ _ _ hbF,zae,hend.1,hov]);(try(refine xsu ?_;try exact xtI))))
    subst hrq
    iterate 5(refine za6 fun rq hrq => ?_;(iterate 2((try simp(etaStruct := .none)only[push_cast,seval,hdq,id,zaa _ _ _ hbF,zae,hend.1,hov]);(try(refine xsu ?_;try exact xtI))));subst hrq)
    refine zmu ?_
    subst hRq
    clear hdq Oq
    refine zmt (by kernel_rfl) ?_
    (iterate 2((try simp(etaStruct := .none)only[push_cast,seval,zaa _ _ _ hbF,zae,hend.1,hov]);(try(refine xsu ?_;try exact xtI))))
    exact xrz rfl
theorem ycp {α : Type} [Inhabited α] {p : α → Bool} {l:List α} {x : α} (h:l.find? p=some x):∃i:Nat,zkm p l=(i:Int)∧i<l.length∧l.getD i default=x:=by
 rw[List.find?_eq_some_iff_getElem]at h
 obtain⟨h1,i,hi,rfl,h2⟩:=h
 exact⟨i,zey p l i hi h1 (fun j hj hji=>by simpa using h2 j hji),hi,zag _ _ hi⟩
end Go.Proofs.YtmjbgbmegbkmhaaGreat
namespace Go.Proofs.YtmjbgbmegbkmhaaGreat
set_option linter.all false
open Go.RowKit
set_option maxRecDepth 100000
def zzl (f:Fld) (WR:Cel→List Int) (a b:Cel):List Cel:=if zmk (WR a) f a b=0 then yec (WR a) f a b else []
theorem yer (f:Fld):∃WR:Cel→List Int,∀a,zat f [a] (WR a):=⟨fun a=>Classical.choose (zww f [a]),fun a=>Classical.choose_spec (zww f [a])⟩
def zpa (l:List Gop) (i:Int):Option Gop:=l.find? fun g=>decide (g.id=i)
def zs2 (t:Trp) (c:Cel):Trp:={ t with c:=c }
def zqc (f:Fld) (WR:Cel→List Int) (l:List Gop) (ts:List Trp) (t:Trp):Option Cel:=match zpa l t.id with
 | none=>none
 | some g=>if (zzl f WR t.c g.to).length<2∨(ts.any fun o=>decide (o.c=(zzl f WR t.c g.to).getD 1 default))=true then none else some ((zzl f WR t.c g.to).getD 1 default)
def zeu (f:Fld) (WR:Cel→List Int) (l:List Gop) (s:List Trp × List Int) (i:Nat):List Trp × List Int:=match zqc f WR l s.1 (s.1.getD i default)with
 | none=>s
 | some c=>(s.1.set i (zs2 (s.1.getD i default) c),s.2 ++ [(s.1.getD i default).id])
def zev (f:Fld) (WR:Cel→List Int) (l:List Gop) (ts:List Trp) (k:Nat):List Trp × List Int:=(List.range k).foldl (zeu f WR l) (ts,[])
theorem zlv (f:Fld) (WR:Cel→List Int) (l:List Gop) (ts:List Trp):zev f WR l ts 0=(ts,[]):=rfl
theorem zhn (f:Fld) (WR:Cel→List Int) (l:List Gop) (ts:List Trp) (k:Nat):zev f WR l ts (k+1)=zeu f WR l (zev f WR l ts k) k:=by
 unfold zev;rw[List.range_succ,List.foldl_append];rfl
theorem zyr (f:Fld) (WR:Cel→List Int) (l:List Gop) (s:List Trp × List Int) (i:Nat):(zeu f WR l s i).1.length=s.1.length∧(zeu f WR l s i).2.length≤s.2.length+1:=by
 unfold zeu
 split
 ·exact⟨rfl,by omega⟩
 ·simp
theorem zjg (f:Fld) (WR:Cel→List Int) (l:List Gop) (ts:List Trp):∀k,(zev f WR l ts k).1.length=ts.length∧(zev f WR l ts k).2.length≤k
 | 0=>⟨rfl,Nat.le_refl _⟩
 | k+1=>by
  rw[zhn]
  have h1:=zjg f WR l ts k
  have h2:=zyr f WR l (zev f WR l ts k) k
  omega
def zhc (f:Fld) (WR:Cel→List Int) (l:List Gop) (ts:List Trp):List Trp × List Int:=zev f WR l ts ts.length
def zmn (c:Cel):List Trp→Nat
 | []=>0
 | t::r=>(if t.c=c then 1 else 0)+zmn c r
theorem zpf (c:Cel):∀l,zmn c l≤l.length
 | []=>Nat.le_refl _
 | t::r=>by have:=zpf c r;rw[zmn,List.length_cons];split<;>omega
theorem zmd (c:Cel) (m:List Trp):∀l,zmn c (l++m)=zmn c l+zmn c m
 | []=>by simp[zmn]
 | t::r=>by rw[List.cons_append,zmn,zmn,zmd c m r];omega
theorem zw9 (c:Cel) (t:Trp):∀(l:List Trp) (i:Nat),i<l.length→zmn c (l.set i t)+(if (l.getD i default).c=c then 1 else 0)=zmn c l+(if t.c=c then 1 else 0)
 | [],i,h=>by simp at h
 | a::r,0,_=>by rw[List.set_cons_zero,zmn,zmn,List.getD_cons_zero];omega
 | a::r,i+1,h=>by
  have:=zw9 c t r i (by simpa using h)
  rw[List.set_cons_succ,zmn,zmn,List.getD_cons_succ];omega
theorem zxa (c:Cel):∀l:List Trp,0<zmn c l↔(l.any fun o=>decide (o.c=c))=true
 | []=>by simp[zmn]
 | t::r=>by
  rw[zmn,List.any_cons]
  have:=zxa c r
  by_cases h:t.c=c
  ·simp[h];omega
  ·simp only[h,if_false,decide_false,Bool.false_or,Nat.zero_add];exact this
def CntM (ts:List Trp) (es:List (List Int × Int)):Prop:=∀x y:Int,zdg [x,y] es=(zmn ⟨x,y⟩ ts:Int)
theorem CntM.add {ts:List Trp} {es:List (List Int × Int)} (h:CntM ts es) (t:Trp):CntM (ts ++ [t]) (zgv [t.c.x,t.c.y] (zdg [t.c.x,t.c.y] es+1) es):=by
 intro x y
 rw[zci,zmd,zmn,zmn]
 obtain⟨i,o,kd,⟨cx,cy⟩,li,lo⟩:=t
 simp only
 by_cases e:x=cx∧y=cy
 ·obtain⟨rfl,rfl⟩:=e
  rw[if_pos rfl,if_pos rfl,h];omega
 ·rw[if_neg (by simpa using e),if_neg (fun he=>e (by cases he;exact⟨rfl,rfl⟩)),h];omega
theorem CntM.move {ts:List Trp} {es:List (List Int × Int)} (h:CntM ts es) {i:Nat} (hi:i<ts.length) (c:Cel) :
 CntM (ts.set i (zs2 (ts.getD i default) c)) (zgv [c.x,c.y] (zdg [c.x,c.y] (zgv [(ts.getD i default).c.x,(ts.getD i default).c.y] (zdg [(ts.getD i default).c.x,(ts.getD i default).c.y] es-1) es)+1) (zgv [(ts.getD i default).c.x,(ts.getD i default).c.y] (zdg [(ts.getD i default).c.x,(ts.getD i default).c.y] es-1) es)):=by
 intro x y
 have hs:=zw9 ⟨x,y⟩ (zs2 (ts.getD i default) c) ts i hi
 obtain⟨cx,cy⟩:=c
 have e2:(zs2 (ts.getD i default) ⟨cx,cy⟩).c=⟨cx,cy⟩:=rfl
 rw[e2]at hs
 rcases ho:(ts.getD i default).c with ⟨ox,oy⟩
 rw[ho]at hs
 simp only at hs ⊢
 have k1:(([x,y]:List Int) = [cx,cy])=((⟨cx,cy⟩:Cel)=⟨x,y⟩):=by
  apply propext;constructor<;>intro h<;>cases h<;>rfl
 have k2:(([x,y]:List Int) = [ox,oy])=((⟨ox,oy⟩:Cel)=⟨x,y⟩):=by
  apply propext;constructor<;>intro h<;>cases h<;>rfl
 have k3:(([cx,cy]:List Int) = [ox,oy])=((⟨ox,oy⟩:Cel)=⟨cx,cy⟩):=by
  apply propext;constructor<;>intro h<;>cases h<;>rfl
 have h':∀x y:Int,zdg [x,y] es=(zmn ⟨x,y⟩ ts:Int):=h
 rw[zci,zci,zci]
 simp only[k1,k2,k3,h']
 by_cases a1:(⟨cx,cy⟩:Cel)=⟨x,y⟩
 ·have e3:x=cx∧y=cy:=by cases a1;exact⟨rfl,rfl⟩
  obtain⟨rfl,rfl⟩:=e3
  rw[if_pos rfl]at hs ⊢
  by_cases a2:(⟨ox,oy⟩:Cel)=⟨x,y⟩
  ·have e4:ox=x∧oy=y:=by cases a2;exact⟨rfl,rfl⟩
   obtain⟨rfl,rfl⟩:=e4
   rw[if_pos rfl]at hs ⊢;omega
  ·rw[if_neg a2]at hs
   rw[if_neg a2];omega
 ·rw[if_neg a1]at hs ⊢
  by_cases a2:(⟨ox,oy⟩:Cel)=⟨x,y⟩
  ·have e4:ox=x∧oy=y:=by cases a2;exact⟨rfl,rfl⟩
   obtain⟨rfl,rfl⟩:=e4
   rw[if_pos rfl]at hs ⊢;omega
  ·rw[if_neg a2]at hs ⊢;omega
end Go.Proofs.YtmjbgbmegbkmhaaGreat
namespace Go.Proofs.YtmjbgbmegbkmhaaGreat
set_option linter.all false
open Go.RowKit
set_option maxRecDepth 100000
set_option maxHeartbeats 2000000
abbrev ym7 (g:Gop):AV := .agg [I .i64 g.id,I .i64 g.to.x,I .i64 g.to.y]
def zzr (t:Trp) (g:Gop):Bool:=decide (g.id=t.id)
theorem ygk (ts:List Trp) (i:Nat) (hi:i<ts.length) (g:Gop):Spec Tryz.prog 133 [ym7 g,.ptr 0 0 0] [.blk 265 [.ptr 1 i 0],.row 108 7 (ts.map za2)] (B (zzr (ts.getD i default) g)) [.blk 265 [.ptr 1 i 0],.row 108 7 (ts.map za2)]:=by
 refine spB Tryz.func133 11 [.tmp 3] Tryz.results133 ?_
 try refine xz2 (gd hi) zbh ?_
 (try(refine⟨by kernel_rfl,?_⟩))
 try refine xz2 (gd hi) zbh ?_
 refine zbc [0,1] rfl rfl (by decide) ⟨?_,?_,trivial⟩ trivial ?_<;>simp(etaStruct := .none)only[push_cast,zab,seval,zzr]
theorem yg9 (ts:List Trp) (i:Nat) (hi:i<ts.length)(l:List Gop) (hl:l.length≤1000000):Spec Tryz.prog 132 [.c (.sl 3 (l.map ze7)),.clo (.func 133) [] [.ptr 0 0 0]] ([.blk 265 [.ptr 1 i 0],.row 108 7 (ts.map za2)]) (I .i64 (zkm (zzr (ts.getD i default)) l)) ([.blk 265 [.ptr 1 i 0],.row 108 7 (ts.map za2)]):=by
 refine spB Tryz.func132 19 [.tmp 4] Tryz.results132 ?_
 try refine xst ?_
 refine za3 (fun k:Nat=>⟨[(8,I .i64 k),(7,I .i64 l.length),(1,.clo (.func 133) [] [.ptr 0 0 0]),(0,.c (.sl 3 (l.map ze7)))],[(0,.blk 265 [.ptr 1 i 0]),(1,.row 108 7 (ts.map za2))],2⟩) (fun k:Nat=>k≤l.length∧∀j (hj:j<l.length),j<k→(zzr (ts.getD i default)) l[j]=false) (fun k:Nat=>l.length-k) (0) (⟨Nat.zero_le _,fun j _ h=>absurd h (Nat.not_lt_zero _)⟩) (To.mk [0,1] rfl rfl (by decide) ?_ ?_) ?_
 ·simp(etaStruct := .none)only[push_cast,zab,seval]
 ·simp(etaStruct := .none)only[push_cast,zab,seval]
 rintro k ⟨hk,hno⟩
 try refine xst ?_
 refine cI (fun h1 => ?_) fun h1 => ?_
 ·have hlt:k<l.length:=by omega
  try refine xz2 (gd hlt) znk ?_
  refine caM [0,1] (ygk ts i hi (l.getD k default)) ?_
  try refine xz2 (gd hlt) znk ?_
  refine cI (fun h2 => ?_) fun h2 => ?_
  ·have e:=zey (zzr (ts.getD i default)) l k hlt (by rw[←zag l k hlt];exact h2) hno
   rw[e]
   try refine xz2 (gd hlt) znk ?_
   refine zbc [0,1] rfl rfl (by decide) ⟨?_,?_,trivial⟩ trivial ?_<;>simp(etaStruct := .none)only[push_cast,zab,seval]
  ·have hno2:∀j (hj:j<l.length),j<k+1→(zzr (ts.getD i default)) l[j]=false:=fun j hj h=>by
    rcases Nat.lt_or_ge j k with h3|h3
    ·exact hno j hj h3
    ·obtain rfl:j=k:=by omega
     rw[←zag l j hj];exact h2
   try refine xz2 (gd hlt) znk ?_
   refine⟨k+1,⟨by omega,hno2⟩,by omega,To.mk [0,1] rfl rfl (by decide) ?_ ?_⟩
   ·(try(refine xz2 (gd hlt) znk ?_;try exact xtI))
   ·(try(refine xz2 (gd hlt) znk ?_;try exact xtI))
 ·have e:=zdy (zzr (ts.getD i default)) l (fun j hj=>hno j hj (by omega))
  rw[e]
  try refine xst ?_
  refine zbc [0,1] rfl rfl (by decide) ⟨?_,?_,trivial⟩ trivial ?_<;>simp(etaStruct := .none)only[push_cast,zab,seval]
theorem zwx {l:List Gop} {t:Trp} : (zpa l t.id=none∧zkm (zzr t) l = -1)∨∃(g:Gop) (j:Nat),zpa l t.id=some g∧zkm (zzr t) l=(j:Int)∧j<l.length∧l.getD j default=g:=by
 cases h:zpa l t.id with
 | none =>
  refine .inl ⟨rfl,?_⟩
  unfold zpa at h
  refine zdy _ l fun j hj => ?_
  have:=List.find?_eq_none.1 h _ (List.getElem_mem hj)
  unfold zzr;simpa using this
 | some g =>
  unfold zpa at h
  obtain⟨j,h1,h2,h3⟩:=ycp (p:=zzr t) (l:=l) (x:=g) h
  exact .inr ⟨g,j,rfl,h1,h2,h3⟩
theorem zhm {f:Fld} {WR:Cel→List Int} {l:List Gop} {s:List Trp × List Int} {i:Nat} (h:zqc f WR l s.1 (s.1.getD i default)=none):zeu f WR l s i=s:=by unfold zeu;rw[h]
theorem zto {f:Fld} {WR:Cel→List Int} {l:List Gop} {s:List Trp × List Int} {i:Nat} {c:Cel} (h:zqc f WR l s.1 (s.1.getD i default)=some c):zeu f WR l s i=(s.1.set i (zs2 (s.1.getD i default) c),s.2 ++ [(s.1.getD i default).id]):=by unfold zeu;rw[h]
theorem zxw {f:Fld} {WR:Cel→List Int} {l:List Gop} {ts:List Trp} {t:Trp} {g:Gop} (h:zpa l t.id=some g):zqc f WR l ts t=if (zzl f WR t.c g.to).length<2∨(ts.any fun o=>decide (o.c=(zzl f WR t.c g.to).getD 1 default))=true then none else some ((zzl f WR t.c g.to).getD 1 default):=by unfold zqc;rw[h]
theorem yb3 (w:Wld) (l:List Gop) (WR:Cel→List Int) (hWR:∀a,zat w.f [a] (WR a)) (hl:w.f.p.length≤9223372036854775807) (hll:l.length≤1000) (hnt:w.troops.length≤100):Spec Tryz.prog 91 [.agg [I .i64 w.f.w,I .i64 w.f.h,.c (.sl 1 (w.f.p.map zae)),.c (.sl 2 (w.bases.map zbb)),.c (.sl 1 (w.stocks.map zae)),.c (.sl 1 (w.mines.map zae)),.own 0,I .i64 w.next,I .i64 w.now],.c (.sl 3 (l.map ze7))] [.row 108 7 (w.troops.map za2)]
 (.c (.sl 1 ((zhc w.f WR l w.troops).2.map zae))) [.row 108 7 ((zhc w.f WR l w.troops).1.map za2)]:=by
 refine spB Tryz.func91 110 [.tmp 4] Tryz.results91 ?_
 (iterate 2((try simp(etaStruct := .none)only[push_cast,seval,zam]);(try(refine xsu ?_;try exact xtI))))
 refine za3 (fun x:Nat × List (List Int × Int)=>⟨[(19,I .i64 x.1),(18,I .i64 w.troops.length),(17,.own 0),(5,.map 2),(2,.ptr 1 0 0),(1,.c (.sl 3 (l.map ze7)))],[(0,.row 108 7 (w.troops.map za2)),(1,.blk 28 [I .i64 w.f.w,I .i64 w.f.h,.c (.sl 1 (w.f.p.map zae)),.c (.sl 2 (w.bases.map zbb)),.c (.sl 1 (w.stocks.map zae)),.c (.sl 1 (w.mines.map zae)),.own 0,I .i64 w.next,I .i64 w.now]),(2,.mp true 2 x.2)],3⟩) (fun x:Nat × List (List Int × Int)=>x.1≤w.troops.length∧CntM (w.troops.take x.1) x.2) (fun x:Nat × List (List Int × Int)=>w.troops.length-x.1) ((0,[])) (⟨Nat.zero_le _,fun _ _=>rfl⟩) (To.mk [0,1,2] rfl rfl (by decide) ?_ ?_) ?_
 ·simp(etaStruct := .none)only[push_cast,zab,seval]
 ·simp(etaStruct := .none)only[push_cast,zab,seval]
 rintro⟨k,es⟩ ⟨hk,hc⟩
 simp only at hk hc
 (iterate 2((try simp(etaStruct := .none)only[push_cast,seval,zam]);(try(refine xsu ?_;try exact xtI))))
 refine cI (fun h1 => ?_) fun h1 => ?_
 ·have hlt:k<w.troops.length:=by omega
  have hca:=hc.add (w.troops.getD k default)
  rw[←zas _ _ hlt]at hca
  have hcb:=hc (w.troops.getD k default).c.x (w.troops.getD k default).c.y
  have hcl:=zpf ⟨(w.troops.getD k default).c.x,(w.troops.getD k default).c.y⟩ (w.troops.take k)
  rw[List.length_take]at hcl
  have hmp:=zlq [(w.troops.getD k default).c.x,(w.troops.getD k default).c.y] es
  (iterate 2((try simp(etaStruct := .none)only[push_cast,seval,zam,zaa _ _ _ hlt,za2]);(try(refine xsu ?_;try exact xtI))))
  refine zbw [some 23,some 24,some 25,some 26,some 27,some 28,some 29,none] rfl ?_
  intro Oq lq Rq hlq hdq hRq
  subst hlq
  iterate 8(refine za6 fun rq hrq => ?_;(iterate 2((try simp(etaStruct := .none)only[push_cast,seval,hdq,id,zam,zaa _ _ _ hlt,za2]);(try(refine xsu ?_;try exact xtI))));subst hrq)
  refine zmu ?_
  subst hRq
  clear hdq Oq
  refine zmt (by kernel_rfl) ?_
  (iterate 2((try simp(etaStruct := .none)only[push_cast,seval,zam,zaa _ _ _ hlt,za2]);(try(refine xsu ?_;try exact xtI))))
  refine⟨(k+1,zgv [(w.troops.getD k default).c.x,(w.troops.getD k default).c.y] (zdg [(w.troops.getD k default).c.x,(w.troops.getD k default).c.y] es+1) es),⟨by simp only;omega,hca⟩,by simp only;omega,To.mk [0,1,2] rfl rfl (by decide) ?_ ?_⟩
  ·(iterate 2((try simp(etaStruct := .none)only[push_cast,seval,zam,zaa _ _ _ hlt,za2]);(try(refine xsu ?_;try exact xtI))))
  ·(iterate 2((try simp(etaStruct := .none)only[push_cast,seval,zam,zaa _ _ _ hlt,za2]);(try(refine xsu ?_;try exact xtI))))
 ·obtain rfl:k=w.troops.length:=by omega
  rw[List.take_length]at hc
  (iterate 2((try simp(etaStruct := .none)only[push_cast,seval,zam]);(try(refine xsu ?_;try exact xtI))))
  refine za3 (fun x:Nat × List (List Int × Int)=>⟨[(34,I .i64 x.1),(33,I .i64 w.troops.length),(8,.own 3),(5,.map 2),(2,.ptr 1 0 0),(1,.c (.sl 3 (l.map ze7)))],[(0,.row 108 7 ((zev w.f WR l w.troops x.1).1.map za2)),(1,.blk 28 [I .i64 w.f.w,I .i64 w.f.h,.c (.sl 1 (w.f.p.map zae)),.c (.sl 2 (w.bases.map zbb)),.c (.sl 1 (w.stocks.map zae)),.c (.sl 1 (w.mines.map zae)),.own 0,I .i64 w.next,I .i64 w.now]),(2,.mp true 2 x.2),(3,.row 3 1 ((zev w.f WR l w.troops x.1).2.map zae))],4⟩) (fun x:Nat × List (List Int × Int)=>x.1≤w.troops.length∧CntM (zev w.f WR l w.troops x.1).1 x.2) (fun x:Nat × List (List Int × Int)=>w.troops.length-x.1) ((0,es)) (⟨Nat.zero_le _,hc⟩) ((To.nil 8 3 1 rfl).trans (To.mk [0,1,2,3] rfl rfl (by decide) ?_ ?_)) ?_
  ·simp(etaStruct := .none)only[push_cast,zab,seval,zlv,List.map_nil]
  ·simp(etaStruct := .none)only[push_cast,zab,seval]
  rintro⟨k,em⟩ ⟨hk,hm⟩
  simp only at hk hm
  have hln:=zjg w.f WR l w.troops k
  have hsk:=zhn w.f WR l w.troops k
  obtain⟨S,hS⟩:∃S,S=zev w.f WR l w.troops k:=⟨_,rfl⟩
  rw[←hS]at hm hln hsk
  (iterate 2((try simp(etaStruct := .none)only[push_cast,seval,zam,←hS,hln.1]);(try(refine xsu ?_;try exact xtI))))
  refine cI (fun h2 => ?_) fun h2 => ?_
  ·have hlt:k<S.1.length:=by omega
   (iterate 2((try simp(etaStruct := .none)only[push_cast,seval,zam,←hS,hln.1,zaa _ _ _ hlt,za2]);(try(refine xsu ?_;try exact xtI))))
   refine caM [4,0] (yg9 S.1 k hlt l (by omega)) ?_
   (iterate 2((try simp(etaStruct := .none)only[push_cast,seval,zam,←hS,hln.1,zaa _ _ _ hlt,za2]);(try(refine xsu ?_;try exact xtI))))
   refine cI (fun h3 => ?_) fun h3 => ?_
   ·have hnone:zpa l (S.1.getD k default).id=none:=by
     rcases zwx (l:=l) (t:=S.1.getD k default)with ⟨h,_⟩|⟨_,j,_,h,_⟩
     ·exact h
     ·rw[h]at h3;omega
    have hms:zeu w.f WR l S k=S:=zhm (by unfold zqc;rw[hnone])
    (iterate 2((try simp(etaStruct := .none)only[push_cast,seval,zam,←hS,hln.1,zaa _ _ _ hlt,za2]);(try(refine xsu ?_;try exact xtI))))
    refine⟨(k+1,em),⟨by simp only;omega,by simp only;rw[hsk,hms];exact hm⟩,by simp only;omega,To.mk [0,1,2,3] rfl rfl (by decide) ?_ ?_⟩
    ·(try(refine xz2 hsk hms ?_;try exact xtI))
    ·(iterate 2((try simp(etaStruct := .none)only[push_cast,seval,zam,←hS,hln.1,zaa _ _ _ hlt,za2]);(try(refine xsu ?_;try exact xtI))))
   ·obtain⟨g,j,hg,hj,hjl,hge⟩:∃(g:Gop) (j:Nat),zpa l (S.1.getD k default).id=some g∧zkm (zzr (S.1.getD k default)) l=(j:Int)∧j<l.length∧l.getD j default=g:=by
     rcases zwx (l:=l) (t:=S.1.getD k default)with ⟨_,h⟩|h
     ·rw[h]at h3;omega
     ·exact h
    obtain⟨wl,hwl⟩:∃wl,wl=zzl w.f WR (S.1.getD k default).c g.to:=⟨_,rfl⟩
    have hwy:(if zmk (WR (S.1.getD k default).c) w.f (S.1.getD k default).c g.to=0 then yec (WR (S.1.getD k default).c) w.f (S.1.getD k default).c g.to else [])=wl:=hwl.symm
    have hst:=zxw (f:=w.f) (WR:=WR) (ts:=S.1) hg
    rw[←hwl]at hst
    rcases Nat.lt_or_ge wl.length 2 with hA|hB
    ·have hms:zeu w.f WR l S k=S:=zhm (by rw[hst,if_pos (.inl hA)])
     have hAg:(wl.map zbb).getD 1 [] = []:=by rw[List.getD_eq_getElem?_getD,List.getElem?_eq_none (by rw[List.length_map];omega)];rfl
     have hAl:((wl.length:Int)<2)=True:=eq_true (by omega)
     (iterate 2((try simp(etaStruct := .none)only[push_cast,seval,zam,←hS,hln.1,zaa _ _ _ hlt,za2,hj,zaa _ _ _ hjl,hge,ze7]);(try(refine xsu ?_;try exact xtI))))
     refine zbw [some 47,some 48,some 49,some 50,some 51,some 52,some 53,some 54,some 55,some 56,some 57,some 58,some 46,some 59,some 60,some 61,some 12,some 13,some 14] rfl ?_
     intro Oq lq Rq hlq hdq hRq
     subst hlq
     iterate 11(refine za6 fun rq hrq => ?_;(iterate 2((try simp(etaStruct := .none)only[push_cast,seval,hdq,id,zam,←hS,hln.1,zaa _ _ _ hlt,za2,hj,zaa _ _ _ hjl,hge,ze7]);(try(refine xsu ?_;try exact xtI))));subst hrq)
     refine za6 fun rq hrq => ?_
     (iterate 2((try simp(etaStruct := .none)only[push_cast,seval,hdq,id,zam,←hS,hln.1,zaa _ _ _ hlt,za2,hj,zaa _ _ _ hjl,hge,ze7]);(try(refine xsu ?_;try exact xtI))))
     refine zem (z06 w.f (S.1.getD k default).c g.to hl (WR (S.1.getD k default).c) (hWR _)) (WkL.refl _) ?_
     rw[hwy]
     (iterate 2((try simp(etaStruct := .none)only[push_cast,seval,hdq,id,zam,←hS,hln.1,zaa _ _ _ hlt,za2,hj,zaa _ _ _ hjl,hge,ze7]);(try(refine xsu ?_;try exact xtI))))
     subst hrq
     iterate 7(refine za6 fun rq hrq => ?_;(iterate 2((try simp(etaStruct := .none)only[push_cast,seval,hdq,id,zam,←hS,hln.1,zaa _ _ _ hlt,za2,hj,zaa _ _ _ hjl,hge,ze7]);(try(refine xsu ?_;try exact xtI))));subst hrq)
     refine zmu ?_
     subst hRq
     clear hdq Oq
     refine zmt (by kernel_rfl) ?_
     (iterate 2((try simp(etaStruct := .none)only[push_cast,seval,zam,←hS,hln.1,zaa _ _ _ hlt,za2,hAg,hAl,List.take_nil,List.map_nil]);(try(refine xsu ?_;try exact xtI))))
     refine za1 (fun h4 => ?_) (fun h4 => ?_)
     ·(iterate 2((try simp(etaStruct := .none)only[push_cast,seval]);(try(refine xsu ?_;try exact xtI))))
      refine⟨(k+1,em),⟨by simp only;omega,by simp only;rw[hsk,hms];exact hm⟩,by simp only;omega,To.mk [0,1,2,3] rfl rfl (by decide) ?_ ?_⟩
      ·(try(refine xz2 hsk hms ?_;try exact xtI))
      ·(iterate 2((try simp(etaStruct := .none) (maxSteps:=1000000)only[push_cast,zab,seval]);(try(refine xsu ?_;try exact xtI))))
     ·simp at h4
    have hB1:1<wl.length:=by omega
    have hBl:((wl.length:Int)<2)=False:=eq_false (by omega)
    have hE0:zmk (WR (S.1.getD k default).c) w.f (S.1.getD k default).c g.to=0:=by
     rcases Decidable.em (zmk (WR (S.1.getD k default).c) w.f (S.1.getD k default).c g.to=0)with h|h
     ·exact h
     ·rw[hwl]at hB1;unfold zzl at hB1;rw[if_neg h]at hB1;simp at hB1
    have hcm:=hm (wl.getD 1 default).x (wl.getD 1 default).y
    have hcl:=zpf ⟨(wl.getD 1 default).x,(wl.getD 1 default).y⟩ S.1
    have hanyc:=zxa ⟨(wl.getD 1 default).x,(wl.getD 1 default).y⟩ S.1
    (iterate 2((try simp(etaStruct := .none)only[push_cast,seval,zam,←hS,hln.1,zaa _ _ _ hlt,za2,hj,zaa _ _ _ hjl,hge,ze7,zaa _ _ _ hB1,zbb,hBl,hE0]);(try(refine xsu ?_;try exact xtI))))
    refine zbw [some 47,some 48,some 49,some 50,some 51,some 52,some 53,some 54,some 55,some 56,some 57,some 58,some 46,some 59,some 60,some 61,some 12,some 13,some 14] rfl ?_
    intro Oq lq Rq hlq hdq hRq
    subst hlq
    iterate 11(refine za6 fun rq hrq => ?_;(iterate 2((try simp(etaStruct := .none)only[push_cast,seval,hdq,id,zam,←hS,hln.1,zaa _ _ _ hlt,za2,hj,zaa _ _ _ hjl,hge,ze7,zaa _ _ _ hB1,zbb,hBl,hE0]);(try(refine xsu ?_;try exact xtI))));subst hrq)
    refine za6 fun rq hrq => ?_
    (iterate 2((try simp(etaStruct := .none)only[push_cast,seval,hdq,id,zam,←hS,hln.1,zaa _ _ _ hlt,za2,hj,zaa _ _ _ hjl,hge,ze7,zaa _ _ _ hB1,zbb,hBl,hE0]);(try(refine xsu ?_;try exact xtI))))
    refine caP (z06 w.f (S.1.getD k default).c g.to hl (WR (S.1.getD k default).c) (hWR _)) ?_
    rw[hwy]
    (iterate 2((try simp(etaStruct := .none)only[push_cast,seval,hdq,id,zam,←hS,hln.1,zaa _ _ _ hlt,za2,hj,zaa _ _ _ hjl,hge,ze7,zaa _ _ _ hB1,zbb,hBl,hE0]);(try(refine xsu ?_;try exact xtI))))
    subst hrq
    iterate 7(refine za6 fun rq hrq => ?_;(iterate 2((try simp(etaStruct := .none)only[push_cast,seval,hdq,id,zam,←hS,hln.1,zaa _ _ _ hlt,za2,hj,zaa _ _ _ hjl,hge,ze7,zaa _ _ _ hB1,zbb,hBl,hE0]);(try(refine xsu ?_;try exact xtI))));subst hrq)
    refine zmu ?_
    subst hRq
    clear hdq Oq
    refine zmt (by kernel_rfl) ?_
    (iterate 2((try simp(etaStruct := .none)only[push_cast,seval,zam,←hS,hln.1,zaa _ _ _ hlt,za2,hj,zaa _ _ _ hjl,hge,ze7,zaa _ _ _ hB1,zbb,hBl,hE0]);(try(refine xsu ?_;try exact xtI))))
    refine cI (fun h4 => ?_) fun h4 => ?_
    ·have hms:zeu w.f WR l S k=S:=zhm (by rw[hst,if_pos (.inr (hanyc.1 (by omega)))])
     (iterate 2((try simp(etaStruct := .none)only[push_cast,seval,zam,←hS,hln.1,zaa _ _ _ hlt,za2,hj,zaa _ _ _ hjl,hge,ze7,zaa _ _ _ hB1,zbb,hBl,hE0]);(try(refine xsu ?_;try exact xtI))))
     refine⟨(k+1,em),⟨by simp only;omega,by simp only;rw[hsk,hms];exact hm⟩,by simp only;omega,To.mk [0,1,2,3] rfl rfl (by decide) ?_ ?_⟩
     ·(try(refine xz2 hsk hms ?_;try exact xtI))
     ·(iterate 2((try simp(etaStruct := .none)only[push_cast,seval,zam,←hS,hln.1,zaa _ _ _ hlt,za2,hj,zaa _ _ _ hjl,hge,ze7,zaa _ _ _ hB1,zbb,hBl,hE0]);(try(refine xsu ?_;try exact xtI))))
    ·have hno:¬(S.1.any fun o=>decide (o.c=(wl.getD 1 default)))=true:=fun h=>by have:=hanyc.2 h;omega
     have hms:zeu w.f WR l S k=(S.1.set k (zs2 (S.1.getD k default) (wl.getD 1 default)),S.2 ++ [(S.1.getD k default).id]):=zto (by rw[hst,if_neg (fun h=>by rcases h with h|h;omega;exact hno h)])
     have hmv:=hm.move hlt (wl.getD 1 default)
     have hmp1:=zlq [(S.1.getD k default).c.x,(S.1.getD k default).c.y] em
     have hc1:=hm (S.1.getD k default).c.x (S.1.getD k default).c.y
     have hcl1:=zpf ⟨(S.1.getD k default).c.x,(S.1.getD k default).c.y⟩ S.1
     have hmp2:=zlq [(wl.getD 1 default).x,(wl.getD 1 default).y] (zgv [(S.1.getD k default).c.x,(S.1.getD k default).c.y] (zdg [(S.1.getD k default).c.x,(S.1.getD k default).c.y] em-1) em)
     have hb2 : -1≤zdg [(wl.getD 1 default).x,(wl.getD 1 default).y] (zgv [(S.1.getD k default).c.x,(S.1.getD k default).c.y] (zdg [(S.1.getD k default).c.x,(S.1.getD k default).c.y] em-1) em)∧zdg [(wl.getD 1 default).x,(wl.getD 1 default).y] (zgv [(S.1.getD k default).c.x,(S.1.getD k default).c.y] (zdg [(S.1.getD k default).c.x,(S.1.getD k default).c.y] em-1) em)≤100:=by
      rw[zci];split<;>omega
     have hgs:∀x:List PV,((S.1.map za2).set k x).getD k []=x:=fun x=>by
      rw[List.getD_eq_getElem?_getD,List.getElem?_set_self (by rw[List.length_map];exact hlt)];rfl
     (iterate 2((try simp(etaStruct := .none)only[push_cast,seval,zam,←hS,hln.1,zaa _ _ _ hlt,za2,hj,zaa _ _ _ hjl,hge,ze7,zaa _ _ _ hB1,zbb,hBl,hE0,hgs,List.length_set,List.set_set]);(try(refine xsu ?_;try exact xtI))))
     refine zbw [some 77,some 78,some 79,some 80,some 81,some 82,some 83,some 84,some 85,none] rfl ?_
     intro Oq lq Rq hlq hdq hRq
     subst hlq
     iterate 10(refine za6 fun rq hrq => ?_;(iterate 2((try simp(etaStruct := .none)only[push_cast,seval,hdq,id,zam,←hS,hln.1,zaa _ _ _ hlt,za2,hj,zaa _ _ _ hjl,hge,ze7,zaa _ _ _ hB1,zbb,hBl,hE0,hgs,List.length_set,List.set_set]);(try(refine xsu ?_;try exact xtI))));subst hrq)
     refine zmu ?_
     subst hRq
     clear hdq Oq
     refine zmt (by kernel_rfl) ?_
     (iterate 2((try simp(etaStruct := .none)only[push_cast,seval,zam,←hS,hln.1,zaa _ _ _ hlt,za2,hj,zaa _ _ _ hjl,hge,ze7,zaa _ _ _ hB1,zbb,hBl,hE0,hgs,List.length_set,List.set_set]);(try(refine xsu ?_;try exact xtI))))
     refine zbw [some 86,some 87,some 88,some 89,some 90,some 91,none] rfl ?_
     intro Oq lq Rq hlq hdq hRq
     subst hlq
     iterate 7(refine za6 fun rq hrq => ?_;(iterate 2((try simp(etaStruct := .none)only[push_cast,seval,hdq,id,zam,←hS,hln.1,zaa _ _ _ hlt,za2,hj,zaa _ _ _ hjl,hge,ze7,zaa _ _ _ hB1,zbb,hBl,hE0,hgs,List.length_set,List.set_set]);(try(refine xsu ?_;try exact xtI))));subst hrq)
     refine zmu ?_
     subst hRq
     clear hdq Oq
     refine zmt (by kernel_rfl) ?_
     (iterate 2((try simp(etaStruct := .none)only[push_cast,seval,zam,←hS,hln.1,zaa _ _ _ hlt,za2,hj,zaa _ _ _ hjl,hge,ze7,zaa _ _ _ hB1,zbb,hBl,hE0,hgs,List.length_set,List.set_set]);(try(refine xsu ?_;try exact xtI))))
     refine zbw [some 92,some 93,some 94,some 95,some 96,some 97,some 98,some 99,some 100,none] rfl ?_
     intro Oq lq Rq hlq hdq hRq
     subst hlq
     iterate 10(refine za6 fun rq hrq => ?_;(iterate 2((try simp(etaStruct := .none)only[push_cast,seval,hdq,id,zam,←hS,hln.1,zaa _ _ _ hlt,za2,hj,zaa _ _ _ hjl,hge,ze7,zaa _ _ _ hB1,zbb,hBl,hE0,hgs,List.length_set,List.set_set]);(try(refine xsu ?_;try exact xtI))));subst hrq)
     refine zmu ?_
     subst hRq
     clear hdq Oq
     refine zmt (by kernel_rfl) ?_
     (iterate 2((try simp(etaStruct := .none)only[push_cast,seval,zam,←hS,hln.1,zaa _ _ _ hlt,za2,hj,zaa _ _ _ hjl,hge,ze7,zaa _ _ _ hB1,zbb,hBl,hE0,hgs,List.length_set,List.set_set]);(try(refine xsu ?_;try exact xtI))))
     refine⟨(k+1,zgv [(wl.getD 1 default).x,(wl.getD 1 default).y] (zdg [(wl.getD 1 default).x,(wl.getD 1 default).y] (zgv [(S.1.getD k default).c.x,(S.1.getD k default).c.y] (zdg [(S.1.getD k default).c.x,(S.1.getD k default).c.y] em-1) em)+1) (zgv [(S.1.getD k default).c.x,(S.1.getD k default).c.y] (zdg [(S.1.getD k default).c.x,(S.1.getD k default).c.y] em-1) em)),⟨by simp only;omega,by simp only;rw[hsk,hms];exact hmv⟩,by simp only;omega,To.mk [0,1,2,190] rfl rfl (by decide) ?_ ?_⟩
     ·(iterate 2((try simp(etaStruct := .none)only[push_cast,zab,seval,hsk,hms,List.map_set,List.map_append,za2,zs2,zae]);(try(refine xsu ?_;try exact xtI))))
     ·(iterate 2((try simp(etaStruct := .none)only[push_cast,seval,zam,←hS,hln.1,zaa _ _ _ hlt,za2,hj,zaa _ _ _ hjl,hge,ze7,zaa _ _ _ hB1,zbb,hBl,hE0,hgs,List.length_set,List.set_set]);(try(refine xsu ?_;try exact xtI))))
  ·obtain rfl:k=w.troops.length:=by omega
   have hmv:zhc w.f WR l w.troops=S:=hS.symm
   (iterate 2((try simp(etaStruct := .none)only[push_cast,seval,zam,←hS,hln.1]);(try(refine xsu ?_;try exact xtI))))
   refine zbc [0] rfl rfl (by decide) ⟨?_,trivial⟩ trivial ?_<;>simp(etaStruct := .none)only[push_cast,zab,seval,hmv]
end Go.Proofs.YtmjbgbmegbkmhaaGreat
namespace Go.Proofs.YtmjbgbmegbkmhaaGreat
set_option linter.all false
open Go.RowKit
set_option maxRecDepth 100000
structure Right (w : Wld) : Prop where
 f:zb7 w.f=0
 nb:w.bases.length≤8
 nt:w.troops.length≤100
 sl:w.stocks.length=w.bases.length
 ml:w.mines.length=w.f.p.length
 nx:1≤w.next∧w.next≤1000000
 nw:0≤w.now∧w.now≤1000000
 base:∀i,i<w.bases.length→zce w.f (w.bases.getD i default)=true∧(0≤w.stocks.getD i default∧w.stocks.getD i default≤1000000)∧∀j,j<i→w.bases.getD j default≠w.bases.getD i default
 mine:∀i,i<w.mines.length→(0≤w.mines.getD i default∧w.mines.getD i default≤1000000)∧(w.mines.getD i default=0∨w.f.p.getD i default=3)
 trp:∀k,k<w.troops.length→TrpOk w (w.troops.getD k default)
 ord:∀j k,j<k→k<w.troops.length→(w.troops.getD j default).id<(w.troops.getD k default).id∧(w.troops.getD j default).c≠(w.troops.getD k default).c
theorem zea {w:Wld} (h:zaw w=0):Right w:=by
 obtain⟨h1,h2,h3,h4,h5⟩:=zdt h
 obtain⟨g1,g2,g3,g4⟩:=zkw h4
 unfold zh1 at h5
 simp only[Bool.and_eq_true]at h5
 obtain⟨⟨b1,b2⟩,b3⟩:=h5
 rw[zbk]at b1 b2 b3
 refine⟨h1,h2,h3,g1,g2,g3,g4,fun i hi => ?_,fun i hi => ?_,fun k hk=>(zfq h hk).1,fun j k hjk hk => ?_⟩
 ·have:=b1 i hi
  unfold zmz at this
  simp only[Bool.and_eq_true,within_iff]at this
  obtain⟨⟨a1,a2⟩,a3⟩:=this
  rw[zbk]at a3
  exact⟨a1,a2,fun j hj=>by have:=a3 j hj;simpa using this⟩
 ·have:=b2 i hi
  unfold zmr at this
  simp only[Bool.and_eq_true,Bool.or_eq_true,within_iff,decide_eq_true_eq]at this
  exact this
 ·have h6:=(zfq h hk).2
  unfold z85 at h6
  have:=(zbk _ _).1 h6 j hjk
  simp only[Bool.and_eq_true,decide_eq_true_eq,Bool.not_eq_true',decide_eq_false_iff_not]at this
  exact this
theorem Right.e {w:Wld} (h:Right w):zaw w=0:=by
 have hb:¬(8<w.bases.length∨100<w.troops.length):=by have:=h.nb;have:=h.nt;omega
 refine zsn h.f hb ?_ ?_
 ·unfold zjt
  rw[decide_eq_true h.sl,decide_eq_true h.ml,(within_iff).2 h.nx,(within_iff).2 h.nw];rfl
 ·unfold zh1
  rw[Bool.and_eq_true,Bool.and_eq_true,zbk,zbk,zbk]
  refine⟨⟨fun i hi => ?_,fun i hi => ?_⟩,fun i hi => ?_⟩
  ·obtain⟨a1,a2,a3⟩:=h.base i hi
   unfold zmz
   rw[a1,(within_iff).2 a2,Bool.true_and,Bool.true_and,zbk]
   intro j hj
   rw[decide_eq_false (a3 j hj)];rfl
  ·obtain⟨a1,a2⟩:=h.mine i hi
   unfold zmr
   rw[(within_iff).2 a1,Bool.true_and,Bool.or_eq_true,decide_eq_true_eq,decide_eq_true_eq];exact a2
  ·have ok:=h.trp i hi
   unfold zfb yee z85
   rw[(within_iff).2 (by rcases ok.kind with e|e<;>omega),(within_iff).2 ok.id,(within_iff).2 ok.owner,ok.at_,(within_iff).2 ok.life,(within_iff).2 ok.load,Bool.true_and,Bool.true_and,Bool.true_and,Bool.true_and,Bool.true_and,Bool.true_and,zbk]
   intro j hj
   obtain⟨c1,c2⟩:=h.ord j i hj hi
   rw[decide_eq_true c1,decide_eq_false c2];rfl
theorem Right.l {w:Wld} (h:Right w):zf7 w:=by
 obtain⟨⟨f1,f2⟩,⟨f3,f4⟩,f5,f6⟩:=zbs h.f
 have hm:w.f.w*w.f.h≤40*40:=Int.mul_le_mul f2 f4 (by omega) (by omega)
 have a1:=h.nb;have a2:=h.nt;have a3:=h.sl;have a4:=h.ml
 unfold zf7;omega
theorem Right.places {w:Wld} (h:Right w):w.f.p.length≤1600:=by
 obtain⟨⟨f1,f2⟩,⟨f3,f4⟩,f5,f6⟩:=zbs h.f
 have hm:w.f.w*w.f.h≤40*40:=Int.mul_le_mul f2 f4 (by omega) (by omega)
 omega
theorem zh2 {w:Wld} {t:Trp} (hk:t.kind=1∨t.kind=2) (hi:1≤t.id∧t.id≤w.next-1) (ho:0≤t.owner∧t.owner≤(w.bases.length:Int)-1) (hg:zce w.f t.c=true) (hl:1≤t.life∧t.life≤(zbl t.kind).life) (hd:0≤t.load∧t.load≤5*(2-t.kind)):TrpOk w t:=by
 have h:=inF_iff.1 (ground_iff.1 hg).1
 exact⟨hk,hi,ho,hg,h.1,h.2,hl,hd⟩
theorem zir {α : Type} [Inhabited α] {l:List α} {i:Nat} (v : α) (p:Nat) (hi:i<l.length):(l.set i v).getD p default=if p=i then v else l.getD p default:=by
 by_cases h:p=i
 ·subst h;rw[if_pos rfl,zag _ _ (by simpa using hi)];simp
 ·rw[if_neg h]
  simp only[List.getD_eq_getElem?_getD,List.getElem?_set,if_neg (Ne.symm h)]
theorem zu7 {α : Type} [Inhabited α] (l:List α) (i:Nat) (hi:i<l.length):l.set i (l.getD i default)=l:=by
 refine List.ext_getElem (by simp) fun j h1 h2 => ?_
 rw[List.getElem_set]
 split
 ·rename_i h;subst h;rw[zag _ _ hi]
 ·rfl
theorem zqv {w:Wld} (h:Right w) (l:List Blw) (hb:∀id,0≤zgc w l id):Right (ze2 w l):=by
 have hsub:(zil w l).length≤w.troops.length:=by
  have:=List.length_filter_le (fun t:Trp=>decide (0<t.life)) (w.troops.map (zd6 w l))
  rw[List.length_map]at this;exact this
 have hp:(zil w l).Pairwise fun a b=>a.id<b.id∧a.c≠b.c:=by
  refine List.Pairwise.filter _ ?_
  rw[List.pairwise_map,List.pairwise_iff_getElem]
  intro i j hi hj hij
  have:=h.ord i j hij hj
  rw[zag _ _ hi,zag _ _ hj]at this
  exact this
 refine⟨h.f,h.nb,Nat.le_trans hsub h.nt,h.sl,h.ml,h.nx,h.nw,h.base,h.mine,fun k hk => ?_,fun j k hjk hk => ?_⟩
 ·have hk':k<(zil w l).length:=hk
  have hm:=zbj _ _ hk'
  obtain⟨h1,h2⟩:=List.mem_filter.1 hm
  obtain⟨t,ht,e⟩:=List.mem_map.1 h1
  obtain⟨q,hq,e2⟩:=mem_getD.1 ht
  have ok:=h.trp q hq
  rw[e2]at ok
  change TrpOk (ze2 w l) ((zil w l).getD k default)
  rw[←e]at h2 ⊢
  rw[decide_eq_true_eq]at h2
  have hh:=hb t.id
  have hlf:=ok.life
  refine zh2 ok.kind ok.id ok.owner ok.at_ ⟨by omega,?_⟩ ok.load
  change t.life-zgc w l t.id≤(zbl t.kind).life
  omega
 ·have hj:j<(zil w l).length:=Nat.lt_trans hjk hk
  have:=List.pairwise_iff_getElem.1 hp j k hj hk hjk
  change ((zil w l).getD j default).id<((zil w l).getD k default).id∧((zil w l).getD j default).c≠((zil w l).getD k default).c
  rw[zag (zil w l) _ hj,zag (zil w l) _ hk];exact this
end Go.Proofs.YtmjbgbmegbkmhaaGreat
namespace Go.Proofs.YtmjbgbmegbkmhaaGreat
set_option linter.all false
open Go.RowKit
set_option maxRecDepth 100000
set_option maxHeartbeats 2000000
def z4s (w:Wld) (ts:List Trp):Wld:={ w with troops:=ts }
abbrev yl0 (w:Wld) (t:AV):List AV := [I .i64 w.f.w,I .i64 w.f.h,.c (.sl 1 (w.f.p.map zae)),.c (.sl 2 (w.bases.map zbb)),.c (.sl 1 (w.stocks.map zae)),.c (.sl 1 (w.mines.map zae)),t,I .i64 w.next,I .i64 w.now]
theorem ygi (w:Wld) (hb:w.f.p.length≤1600∧w.bases.length≤8∧w.stocks.length≤8∧w.mines.length≤1600∧w.troops.length≤100):Spec Tryz.prog 90 [zdi w] [] (.agg (yl0 w (.own 0))) [.row 108 7 (w.troops.map za2)]:=by
 refine spB Tryz.func90 26 [.cell 2 28] Tryz.results90 ?_
 try refine xst ?_
 refine caM [] (zbv w.f.p (by omega)) ?_
 try refine xst ?_
 refine caM [] (z36 w.bases (by omega)) ?_
 try refine xst ?_
 refine caM [] (zbv w.stocks (by omega)) ?_
 try refine xst ?_
 (try(refine⟨by kernel_rfl,?_⟩))
 try refine xst ?_
 refine caM [] (zbv w.mines (by omega)) ?_
 try refine xst ?_
 refine caM [] (zp1 w.troops (by omega)) ?_
 try refine xst ?_
 (try(refine⟨by kernel_rfl,?_⟩))
 try refine xst ?_
 refine zbc [63] rfl rfl (by decide) ⟨?_,trivial⟩ ⟨rfl,trivial⟩ (Wk.of ?_)
 ·simp(etaStruct := .none)only[push_cast,zab,seval]
 ·first|rfl|kernel_rfl
def zk7 (w:Wld) (l:List Gop):Int:=if zaw w≠0 then zaw w else if 200<l.length then 2 else 0
theorem ybc {w:Wld} (hw:Right w):w.f.p.length≤1600∧w.bases.length≤8∧w.stocks.length≤8∧w.mines.length≤1600∧w.troops.length≤100:=by
 have hfo:=zbs hw.f
 have hm2:w.f.w*w.f.h≤40*40:=Int.mul_le_mul hfo.1.2 hfo.2.1.2 (by omega) (by omega)
 have h1:=hw.nb
 have h2:=hw.sl
 have h3:=hw.ml
 have h4:=hw.nt
 omega
theorem z6s (w:Wld) (l:List Gop) (WR:Cel→List Int) (hWR:∀a,zat w.f [a] (WR a)) (hl:zf7 w) (hll:l.length≤9223372036854775807):Spec Tryz.prog 48 [zdi w,.c (.sl 3 (l.map ze7))] [] (.tup [zdi (if zk7 w l=0 then z4s w (zhc w.f WR l w.troops).1 else default),.c (.sl 1 ((if zk7 w l=0 then (zhc w.f WR l w.troops).2 else []).map zae)),I .i64 (zk7 w l)]) []:=by
 refine spB Tryz.func48 26 [.cell 4 28,.tmp 5,.tmp 6] Tryz.results48 ?_
 try refine xst ?_
 refine caP (zeq w hl) ?_
 try refine xst ?_
 refine cI (fun h1 => ?_) fun h1 => ?_
 ·have e:zk7 w l=zaw w:=by unfold zk7;rw[if_pos h1]
  rw[e,if_neg h1,if_neg h1]
  try refine xst ?_
  exact xrz rfl
 ·have hw:=zea h1
  try refine xst ?_
  refine cI (fun h2 => ?_) fun h2 => ?_
  ·have e:zk7 w l=2:=by unfold zk7;rw[if_neg (by simp[h1]),if_pos (by omega)]
   rw[e,if_neg (by decide),if_neg (by decide)]
   try refine xst ?_
   exact xrz rfl
  ·have e:zk7 w l=0:=by unfold zk7;rw[if_neg (by simp[h1]),if_neg (by omega)]
   rw[e,if_pos rfl,if_pos rfl]
   have hb:=ybc hw
   try refine xst ?_
   refine caM [] (ygi w hb) ?_
   try refine xst ?_
   refine caM [2] (yb3 w l WR hWR (by omega) (by omega) (by omega)) ?_
   try refine xst ?_
   refine zbr rfl (by repeat' (first|exact trivial|exact rfl|refine⟨?_,?_⟩)) (Wk.of ?_)
   first|rfl|kernel_rfl
end Go.Proofs.YtmjbgbmegbkmhaaGreat
namespace Go.Proofs.YtmjbgbmegbkmhaaGreat
set_option linter.all false
open Go.RowKit
set_option maxRecDepth 100000
theorem zkx {f:Fld} {a b:Cel} {R:List Int} {W H:Nat} (s:Srch f a b R W H) (hf:zb7 f=0) (ha:inF f a=true) (hpa:zao f a≠1):∀(N:Nat) (c:Cel),inF f c=true→0≤R.getD (zar f c) default→∀x∈zzw R f a N c,zce f x=true
 | 0,c,_,_,x,hx=>by unfold zzw at hx;cases hx
 | N+1,c,hc,h0,x,hx=>by
  unfold zzw at hx
  by_cases hca:c=a
  ·rw[if_pos hca]at hx;cases hx
  ·rw[if_neg hca]at hx
   obtain⟨_,_,h3,_,h5,_⟩:=z1q s.w s.h s.w0 hf s.l s.r ha hc hca h0
   rcases List.mem_cons.1 hx with e|hx
   ·rw[e,ground_iff]
    refine⟨h3,?_⟩
    obtain⟨en,hnL⟩:=zbp s.w s.h s.w0 hf h3
    rcases s.r.why _ hnL h5 with ⟨w1,_⟩|⟨_,_,_,hr,_⟩
    ·rw[List.mem_singleton]at w1
     have epl:∀n,zao f n=f.p.getD (zar f n) default:=fun _=>rfl
     rw[epl,w1];exact hpa
    ·exact hr
   ·exact zkx s hf ha hpa N _ h3 h5 x hx
theorem zsq {f:Fld} {WR:Cel→List Int} (hWR:∀a,zat f [a] (WR a)) {a b x:Cel} (hx:x∈zzl f WR a b):zce f x=true:=by
 unfold zzl at hx
 by_cases he:zmk (WR a) f a b=0
 ·rw[if_pos he]at hx
  unfold zmk at he
  by_cases hf:zb7 f=0
  ·rw[if_neg (by simpa using hf)]at he
   by_cases hi:inF f a=true∧inF f b=true
   ·rw[if_neg (by simpa using hi)]at he
    by_cases hp:zao f a=1∨zao f b=1
    ·rw[if_pos hp]at he;exact absurd he (by decide)
    ·rw[if_neg hp]at he
     by_cases hr:(WR a).getD (zar f b) default<0
     ·rw[if_pos hr]at he;exact absurd he (by decide)
     ·have hpa:zao f a≠1:=fun h=>hp (Or.inl h)
      have hpb:zao f b≠1:=fun h=>hp (Or.inr h)
      obtain⟨W,H,s⟩:=yic (b:=b) hf hi.1 hpa (hWR a)
      unfold yec at hx
      rw[List.mem_reverse]at hx
      rcases List.mem_cons.1 hx with e|hx
      ·rw[e];exact ground_iff.2 ⟨hi.2,hpb⟩
      ·exact zkx s hf hi.1 hpa _ b hi.2 (by omega) x hx
   ·rw[if_pos hi]at he;exact absurd he (by decide)
  ·rw[if_pos hf]at he;exact absurd he hf
 ·rw[if_neg he]at hx;cases hx
theorem zqb {f:Fld} {WR:Cel→List Int} (hWR:∀a,zat f [a] (WR a)) {l:List Gop} {ts:List Trp} {t:Trp} {c:Cel} (h:zqc f WR l ts t=some c):zce f c=true∧(ts.any fun o=>decide (o.c=c))=false:=by
 unfold zqc at h
 split at h
 ·cases h
 ·rename_i g _
  split at h
  ·cases h
  ·rename_i hn
   cases h
   have h1:1<(zzl f WR t.c g.to).length:=by omega
   refine⟨zsq hWR (zbj _ _ h1),?_⟩
   cases e:ts.any fun o=>decide (o.c=(zzl f WR t.c g.to).getD 1 default)with
   | false=>rfl
   | true=>exact absurd (Or.inr e) hn
theorem zx7 {w:Wld} (h:Right w) {i:Nat} (hi:i<w.troops.length) {c:Cel} (hg:zce w.f c=true) (hn:(w.troops.any fun o=>decide (o.c=c))=false):Right (z4s w (w.troops.set i (zs2 (w.troops.getD i default) c))):=by
 have G:=fun p=>zir (zs2 (w.troops.getD i default) c) p hi
 have hno:∀k,k<w.troops.length→(w.troops.getD k default).c≠c:=fun k hk e=>by
  have:=List.any_eq_false.1 hn _ (zbj _ _ hk)
  rw[e]at this;simp at this
 refine⟨h.f,h.nb,by simpa[z4s]using h.nt,h.sl,h.ml,h.nx,h.nw,h.base,h.mine,fun k hk => ?_,fun j k hjk hk => ?_⟩
 ·have hk':k<w.troops.length:=by simpa[z4s]using hk
  have e:∀t,TrpOk w t→TrpOk (z4s w (w.troops.set i (zs2 (w.troops.getD i default) c))) t:=fun t ht=>⟨ht.kind,ht.id,ht.owner,ht.at_,ht.x,ht.y,ht.life,ht.load⟩
  have G':=G k
  change TrpOk _ ((w.troops.set i (zs2 (w.troops.getD i default) c)).getD k default)
  rw[G']
  split
  ·have ok:=h.trp i hi
   exact e _ (zh2 ok.kind ok.id ok.owner hg ok.life ok.load)
  ·exact e _ (h.trp k hk')
 ·have hk':k<w.troops.length:=by simpa[z4s]using hk
  have hj':j<w.troops.length:=Nat.lt_trans hjk hk'
  have:=h.ord j k hjk hk'
  change ((w.troops.set i (zs2 (w.troops.getD i default) c)).getD j default).id<((w.troops.set i (zs2 (w.troops.getD i default) c)).getD k default).id∧((w.troops.set i (zs2 (w.troops.getD i default) c)).getD j default).c≠((w.troops.set i (zs2 (w.troops.getD i default) c)).getD k default).c
  rw[G j,G k]
  by_cases e1:j=i
  ·have e2:k≠i:=by omega
   rw[if_pos e1,if_neg e2]
   subst e1
   exact⟨this.1,fun e=>hno k hk' e.symm⟩
  ·rw[if_neg e1]
   by_cases e2:k=i
   ·rw[if_pos e2]
    subst e2
    exact⟨this.1,fun e=>hno j hj' e⟩
   ·rw[if_neg e2];exact this
theorem zjx {w:Wld} (h:Right w) {WR:Cel→List Int} (hWR:∀a,zat w.f [a] (WR a)) (l:List Gop):∀k,k≤w.troops.length→Right (z4s w (zev w.f WR l w.troops k).1)
 | 0,_=>by rw[zlv];exact h
 | k+1,hk=>by
  have ih:=zjx h hWR l k (by omega)
  have hlen:=(zjg w.f WR l w.troops k).1
  rw[zhn]
  unfold zeu
  split
  ·exact ih
  ·rename_i c hs
   obtain⟨g1,g2⟩:=zqb hWR hs
   exact zx7 ih (i:=k) (by change k<(zev w.f WR l w.troops k).1.length;omega) g1 g2
theorem zod {w:Wld} (h:Right w) {WR:Cel→List Int} (hWR:∀a,zat w.f [a] (WR a)) (l:List Gop):Right (z4s w (zhc w.f WR l w.troops).1):=zjx h hWR l _ (Nat.le_refl _)
structure HitInv (w : Wld) (m : List Blw) (harm : List Int) (done : List Bool) : Prop where
 l1:harm.length=w.troops.length
 l2:done.length=w.troops.length
 val:∀j,j<w.troops.length→harm.getD j default=zgc w m (w.troops.getD j default).id
 low:∀j,j<w.troops.length→0≤harm.getD j default∧harm.getD j default≤4*m.length
 did:∀j,j<w.troops.length→done.getD j default=m.any (zl5 w (w.troops.getD j default))
theorem HitInv.start (w:Wld):HitInv w [] (List.replicate w.troops.length 0) (List.replicate w.troops.length false):=by
 have g:∀j,j<w.troops.length→(List.replicate w.troops.length (0:Int)).getD j default=0:=fun j hj=>by rw[zag _ _ (by simpa using hj)];simp
 have g2:∀j,j<w.troops.length→(List.replicate w.troops.length false).getD j default=false:=fun j hj=>by rw[zag _ _ (by simpa using hj)];simp
 exact⟨by simp,by simp,fun j hj=>by rw[g j hj,zwj],fun j hj=>by rw[g j hj];simp,fun j hj=>by rw[g2 j hj];rfl⟩
theorem HitInv.skip {w:Wld} (hu:Ups w) {m:List Blw} {harm:List Int} {done:List Bool} (h:HitInv w m harm done) (b:Blw) (hs:zmx w b=false∨∃i,i<w.troops.length∧(w.troops.getD i default).id=b.by_∧done.getD i default=true):HitInv w (m ++ [b]) harm done:=by
 have hs':zmx w b=false∨∃i,i<w.troops.length∧(w.troops.getD i default).id=b.by_∧m.any (zl5 w (w.troops.getD i default))=true:=by
  rcases hs with hs|⟨i,hi,e,hd⟩
  ·exact .inl hs
  ·exact .inr ⟨i,hi,e,by rw[←h.did i hi];exact hd⟩
 refine⟨h.l1,h.l2,fun j hj=>by rw[z2z hu _ _ _ hs'];exact h.val j hj,fun j hj => ?_,fun j hj => ?_⟩
 ·have:=h.low j hj
  rw[List.length_append];simp only[List.length_cons,List.length_nil];omega
 ·rw[List.any_append,h.did j hj]
  simp only[List.any_cons,List.any_nil,Bool.or_false]
  cases hp:zl5 w (w.troops.getD j default) b with
  | false=>rw[Bool.or_false]
  | true =>
   rw[Bool.or_true]
   unfold zl5 at hp
   simp only[Bool.and_eq_true,decide_eq_true_eq]at hp
   rcases hs' with hs|⟨i,hi,e,hd⟩
   ·rw[hs]at hp;simp at hp
   ·by_cases hij:i=j
    ·subst hij;exact hd
    ·exact absurd (e.trans hp.1) (hu.ne hi hj hij)
theorem HitInv.go {w:Wld} (hu:Ups w) {m:List Blw} {harm:List Int} {done:List Bool} (h:HitInv w m harm done) {b:Blw} (hb:zmx w b=true) {i j:Nat} (hi:i<w.troops.length) (hj:j<w.troops.length) (ei:(w.troops.getD i default).id=b.by_) (ej:(w.troops.getD j default).id=b.at_) (hd:done.getD i default=false) :
 HitInv w (m ++ [b]) (harm.set j (harm.getD j default+(zbl (w.troops.getD i default).kind).load)) (done.set i true):=by
 have hn:m.any (zl5 w (w.troops.getD i default))=false:=by rw[←h.did i hi];exact hd
 have hk:=zl2 (w.troops.getD i default).kind
 refine⟨by rw[List.length_set];exact h.l1,by rw[List.length_set];exact h.l2,fun q hq => ?_,fun q hq => ?_,fun q hq => ?_⟩
 ·rw[yfe _ _ (by rw[h.l1];exact hj),z2y hu _ _ _ hb hi ei hn]
  by_cases e:q=j
  ·subst e
   rw[if_pos rfl,if_pos ej.symm,h.val q hq]
  ·rw[if_neg e,if_neg (fun e2=>hu.ne hq hj e (e2.symm.trans ej.symm)),h.val q hq,Int.add_zero]
 ·rw[yfe _ _ (by rw[h.l1];exact hj),List.length_append]
  have h1:=h.low q hq
  have h2:=h.low j hj
  simp only[List.length_cons,List.length_nil]
  split<;>omega
 ·rw[yj5 _ _ (by rw[h.l2];exact hi),List.any_append]
  simp only[List.any_cons,List.any_nil,Bool.or_false]
  by_cases e:q=i
  ·subst e
   rw[if_pos rfl,show zl5 w (w.troops.getD q default) b=true by unfold zl5;rw[hb,ei];simp,Bool.or_true]
  ·rw[if_neg e,h.did q hq,show zl5 w (w.troops.getD q default) b=false by
    unfold zl5;rw[decide_eq_false (fun e2=>hu.ne hq hi e (e2.symm.trans ei.symm))];rfl,Bool.or_false]
section
variable {w : Wld} {b : Blw} {i j : Nat} {p q : Bool}
theorem z8g (h1:p=(zdr w b.by_).isSome) (h2:(zdr w b.by_).isSome=true→(w.troops.getD i default).id=b.by_∧(zdr w b.by_).getD z86=w.troops.getD i default)
 (h3:q=(zdr w b.at_).isSome) (h4:(zdr w b.at_).isSome=true→(w.troops.getD j default).id=b.at_∧(zdr w b.at_).getD z86=w.troops.getD j default) (hp:p=true) (hq:q=true) (hc:zj3 w (w.troops.getD i default) (w.troops.getD j default)=true) :
 zmx w b=true∧(w.troops.getD i default).id=b.by_∧(w.troops.getD j default).id=b.at_:=by
 rw[hp]at h1;rw[hq]at h3
 have a:=h2 h1.symm
 have c:=h4 h3.symm
 refine⟨?_,a.1,c.1⟩
 unfold zmx;rw[←h1,←h3,a.2,c.2,hc];rfl
theorem ydy {done:List Bool} (hi:i<w.troops.length) (h1:p=(zdr w b.by_).isSome) (h2:(zdr w b.by_).isSome=true→(w.troops.getD i default).id=b.by_∧(zdr w b.by_).getD z86=w.troops.getD i default)
 (h3:q=(zdr w b.at_).isSome) (h4:(zdr w b.at_).isSome=true→(w.troops.getD j default).id=b.at_∧(zdr w b.at_).getD z86=w.troops.getD j default) (h:((p=false∨q=false)∨done.getD i default=true)∨zj3 w (w.troops.getD i default) (w.troops.getD j default)=false) :
 zmx w b=false∨∃i,i<w.troops.length∧(w.troops.getD i default).id=b.by_∧done.getD i default=true:=by
 unfold zmx
 rw[←h1,←h3]
 cases p with
 | false=>exact .inl rfl
 | true =>
  cases q with
  | false=>exact .inl rfl
  | true =>
   have a:=h2 h1.symm
   have c:=h4 h3.symm
   rw[a.2,c.2]
   rcases h with (h|h)|h
   ·simp at h
   ·exact .inr ⟨i,hi,a.1,h⟩
   ·exact .inl (by rw[h];rfl)
end
end Go.Proofs.YtmjbgbmegbkmhaaGreat
namespace Go.Proofs.YtmjbgbmegbkmhaaGreat
set_option linter.all false
open Go.RowKit
set_option maxRecDepth 100000
set_option maxHeartbeats 1000000
theorem ydw (w:Wld) (l:List Blw) (hl:zf7 w) (hw:zaw w=0) (hll:l.length≤200) (ht:0<w.troops.length):Spec Tryz.prog 88 [zdi w,.c (.sl 2 (l.map zfa))] [] (.tup [.c (.sl 1 ((zhq w l).map zae)),I .i64 (zbq w l)]) []:=by
 have e:zbq w l=0:=by unfold zbq;rw[if_neg (by simp[hw]),if_neg (by omega)]
 have hu:=yey hw
 obtain⟨w1,w2,w3,w4,w5⟩:=zdt hw
 refine spB Tryz.func88 120 [.tmp 4,.tmp 5] Tryz.results88 ?_
 try refine xst ?_
 refine caP (zeq w hl) ?_
 try refine xst ?_
 refine cI (fun h1 => ?_) fun h1 => ?_
 ·exact absurd hw h1
 ·try refine xst ?_
  refine cI (fun h2 => ?_) fun h2 => ?_
  ·omega
  ·try refine xst ?_
   refine za3 (fun x:Nat × List (List Int × Int)=>⟨[(32,I .i64 x.1),(31,I .i64 w.troops.length),(30,.c (.sl 7 (w.troops.map za2))),(7,.map 1),(2,.ptr 0 0 0),(1,.c (.sl 2 (l.map zfa)))],[(0,.blk 28 (znz w)),(1,.mp false 1 x.2)],2⟩) (fun x:Nat × List (List Int × Int)=>x.1≤w.troops.length∧IdxM w x.1 x.2) (fun x:Nat × List (List Int × Int)=>w.troops.length-x.1) ((0,[])) (⟨Nat.zero_le _,fun i=>rfl,fun j h=>absurd h (Nat.not_lt_zero _)⟩) (To.mk [0,1] rfl rfl (by decide) ?_ ?_) ?_
   ·simp(etaStruct := .none)only[push_cast,zab,seval]
   ·simp(etaStruct := .none)only[push_cast,zab,seval]
   rintro⟨k,es⟩ ⟨hk,hn⟩
   simp only at hk hn
   try refine xst ?_
   refine cI (fun h3 => ?_) fun h3 => ?_
   ·have hlt:k<w.troops.length:=by omega
    try refine xz2 (gd hlt) zbh ?_
    refine⟨(k+1,zgv [(w.troops.getD k default).id] (k:Int) es),⟨by simp only;omega,hn.step hu hlt⟩,by simp only;omega,To.mk [0,1] rfl rfl (by decide) ?_ ?_⟩
    ·(try(refine xz2 (gd hlt) zbh ?_;try exact xtI))
    ·(try(refine xz2 (gd hlt) zbh ?_;try exact xtI))
   ·obtain rfl:k=w.troops.length:=by omega
    have hget:=hn.get ht
    try refine xst ?_
    refine za3 (fun x:Nat × List Int × List Bool=>⟨[(52,I .i64 x.1),(51,I .i64 l.length),(50,.c (.sl 2 (l.map zfa))),(11,.own 3),(10,.own 2),(7,.map 1),(2,.ptr 0 0 0)],[(0,.blk 28 (znz w)),(1,.mp false 1 es),(2,.row 3 1 (x.2.1.map zae)),(3,.row 4 1 (x.2.2.map zfl))],4⟩) (fun x:Nat × List Int × List Bool=>x.1≤l.length∧HitInv w (l.take x.1) x.2.1 x.2.2) (fun x:Nat × List Int × List Bool=>l.length-x.1) ((0,List.replicate w.troops.length 0,List.replicate w.troops.length false)) (⟨Nat.zero_le _,HitInv.start w⟩) (To.mk [0,1,2,3] rfl rfl (by decide) ?_ ?_) ?_
    ·simp(etaStruct := .none)only[push_cast,zab,seval,List.map_replicate,List.length_replicate,zae,zfl]
    ·simp(etaStruct := .none)only[push_cast,zab,seval]
    rintro⟨k,harm,done⟩ ⟨hk,hinv⟩
    simp only at hk hinv
    have hl1:=hinv.l1
    have hl2:=hinv.l2
    try refine xst ?_
    refine cI (fun h4 => ?_) fun h4 => ?_
    ·have hlt:k<l.length:=by omega
     obtain⟨b,hb⟩:∃b,b=l.getD k default:=⟨_,rfl⟩
     obtain⟨i,hi,gi,mi1,mi2⟩:=hget b.by_
     obtain⟨j,hj,gj,mj1,mj2⟩:=hget b.at_
     have hid:i<done.length:=by omega
     have hjh:j<harm.length:=by omega
     have htk:l.take (k+1)=l.take k ++ [b]:=by rw[zas _ _ hlt,hb]
     have hlow:=hinv.low j hj
     have hkh:=zl2 (w.troops.getD i default).kind
     rw[List.length_take]at hlow
     iterate 2(try simp(etaStruct := .none)only[push_cast,zab,seval,zaa _ _ _ hlt,←hb,zfa,gi,gj,zaa _ _ _ hid,zaa _ _ _ hi,zaa _ _ _ hj,zaa _ _ _ hjh,za2,zfl,zae];try refine xsu ?_)
     refine gcP (fun hcc=>z76 w (w.troops.getD i default) (w.troops.getD j default) hl hw (zbj _ _ hi) (zbj _ _ hj)) ?_
     iterate 2(try simp(etaStruct := .none)only[push_cast,zab,seval,zaa _ _ _ hlt,←hb,zfa,gi,gj,zaa _ _ _ hid,zaa _ _ _ hi,zaa _ _ _ hj,zaa _ _ _ hjh,za2,zfl,zae];try refine xsu ?_)
     (try(refine⟨by kernel_rfl,?_⟩))
     iterate 2(try simp(etaStruct := .none)only[push_cast,zab,seval,zaa _ _ _ hlt,←hb,zfa,gi,gj,zaa _ _ _ hid,zaa _ _ _ hi,zaa _ _ _ hj,zaa _ _ _ hjh,za2,zfl,zae];try refine xsu ?_)
     refine cI (fun h5 => ?_) fun h5 => ?_
     ·have hnx:=hinv.skip hu b (ydy hi mi1 mi2 mj1 mj2 h5)
      rw[←htk]at hnx
      iterate 2(try simp(etaStruct := .none)only[push_cast,zab,seval,zaa _ _ _ hlt,←hb,zfa,gi,gj,zaa _ _ _ hid,zaa _ _ _ hi,zaa _ _ _ hj,zaa _ _ _ hjh,za2,zfl,zae];try refine xsu ?_)
      refine⟨(k+1,harm,done),⟨by simp only;omega,hnx⟩,by simp only;omega,To.mk [0,1,2,3] rfl rfl (by decide) ?_ ?_⟩
      ·(iterate 2((try simp(etaStruct := .none)only[push_cast,zab,seval,zaa _ _ _ hlt,←hb,zfa,gi,gj,zaa _ _ _ hid,zaa _ _ _ hi,zaa _ _ _ hj,zaa _ _ _ hjh,za2,zfl,zae]);(try(refine xsu ?_;try exact xtI))))
      ·(iterate 2((try simp(etaStruct := .none)only[push_cast,zab,seval,zaa _ _ _ hlt,←hb,zfa,gi,gj,zaa _ _ _ hid,zaa _ _ _ hi,zaa _ _ _ hj,zaa _ _ _ hjh,za2,zfl,zae]);(try(refine xsu ?_;try exact xtI))))
     ·obtain⟨y1,y2,y3⟩:=z8g mi1 mi2 mj1 mj2 h5.1.1.1 h5.1.1.2 h5.2
      have hnx:=hinv.go hu y1 hi hj y2 y3 h5.1.2
      rw[←htk]at hnx
      iterate 2(try simp(etaStruct := .none)only[push_cast,zab,seval,zaa _ _ _ hlt,←hb,zfa,gi,gj,zaa _ _ _ hid,zaa _ _ _ hi,zaa _ _ _ hj,zaa _ _ _ hjh,za2,zfl,zae];try refine xsu ?_)
      refine caP (zhh (w.troops.getD i default).kind) ?_
      iterate 2(try simp(etaStruct := .none)only[push_cast,zab,seval,zaa _ _ _ hlt,←hb,zfa,gi,gj,zaa _ _ _ hid,zaa _ _ _ hi,zaa _ _ _ hj,zaa _ _ _ hjh,za2,zfl,zae];try refine xsu ?_)
      (try(refine⟨by kernel_rfl,?_⟩))
      iterate 2(try simp(etaStruct := .none)only[push_cast,zab,seval,zaa _ _ _ hlt,←hb,zfa,gi,gj,zaa _ _ _ hid,zaa _ _ _ hi,zaa _ _ _ hj,zaa _ _ _ hjh,za2,zfl,zae];try refine xsu ?_)
      refine⟨(k+1,harm.set j (harm.getD j default+(zbl (w.troops.getD i default).kind).load),done.set i true),⟨by simp only;omega,hnx⟩,by simp only;omega,To.mk [0,1,2,3] rfl rfl (by decide) ?_ ?_⟩
      ·(iterate 2((try simp(etaStruct := .none)only[push_cast,zab,seval,List.map_set,zae,zfl]);(try(refine xsu ?_;try exact xtI))))
      ·(iterate 2((try simp(etaStruct := .none)only[push_cast,zab,seval,zaa _ _ _ hlt,←hb,zfa,gi,gj,zaa _ _ _ hid,zaa _ _ _ hi,zaa _ _ _ hj,zaa _ _ _ hjh,za2,zfl,zae]);(try(refine xsu ?_;try exact xtI))))
    ·obtain rfl:k=l.length:=by omega
     rw[List.take_length]at hinv
     have e2:zhq w l=harm:=by unfold zhq;rw[if_pos e];exact(z7e hl1 hinv.val).symm
     try refine xst ?_
     (first|(refine zaz rfl (Wk.of ?_);(try simp(etaStruct := .none)only[push_cast,zab,seval]);first|done|(simp[e,e2, *];done)|(simp_all[e,e2];done))|(refine zaz rfl ?_;(try simp(etaStruct := .none)only[push_cast,zab,seval]);(try simp[e,e2, *]);(try exact wkc)))
theorem ydx (w:Wld) (l:List Blw) (hl:zf7 w) (hw:zaw w=0) (hll:l.length≤200) (ht:w.troops = []):Spec Tryz.prog 88 [zdi w,.c (.sl 2 (l.map zfa))] [] (.tup [.c (.sl 1 ((zhq w l).map zae)),I .i64 (zbq w l)]) []:=by
 have e:zbq w l=0:=by unfold zbq;rw[if_neg (by simp[hw]),if_neg (by omega)]
 have e2:zhq w l = []:=by unfold zhq zo7;rw[if_pos e,ht];rfl
 obtain⟨wf,wb,ws,wm,wt,wn,wo⟩:=w
 simp only at ht
 subst ht
 obtain⟨w,hwd⟩:∃w:Wld,w=⟨wf,wb,ws,wm,[],wn,wo⟩:=⟨_,rfl⟩
 refine spB Tryz.func88 120 [.tmp 4,.tmp 5] Tryz.results88 ?_
 iterate 2(try simp(etaStruct := .none)only[push_cast,zab,seval,List.getD_nil];try refine xsu ?_)
 refine caP (zeq _ hl) ?_
 iterate 2(try simp(etaStruct := .none)only[push_cast,zab,seval,List.getD_nil];try refine xsu ?_)
 refine cI (fun h1 => ?_) fun h1 => ?_
 ·exact absurd hw h1
 ·iterate 2(try simp(etaStruct := .none)only[push_cast,zab,seval,List.getD_nil];try refine xsu ?_)
  refine cI (fun h2 => ?_) fun h2 => ?_
  ·omega
  ·iterate 2(try simp(etaStruct := .none)only[push_cast,zab,seval,List.getD_nil];try refine xsu ?_)
   refine za3 (fun _u:Unit=>⟨[(32,I .i64 0),(31,I .i64 0),(30,.c (.sl 7 [])),(7,.map 1),(2,.ptr 0 0 0),(1,.c (.sl 2 (l.map zfa)))],[(0,.blk 28 (znz ⟨wf,wb,ws,wm,[],wn,wo⟩)),(1,.mp false 1 [])],2⟩) (fun _u:Unit=>Tr) (fun _u:Unit=>0) (()) (trI) (To.mk [0,1] rfl rfl (by decide) ?_ ?_) ?_
   ·simp(etaStruct := .none)only[push_cast,zab,seval]
   ·simp(etaStruct := .none)only[push_cast,zab,seval]
   rintro _ _
   iterate 2(try simp(etaStruct := .none)only[push_cast,zab,seval,List.getD_nil];try refine xsu ?_)
   refine cI (fun h3 => ?_) fun h3 => ?_
   ·simp at h3
   ·iterate 2(try simp(etaStruct := .none)only[push_cast,zab,seval,List.getD_nil];try refine xsu ?_)
    refine za3 (fun k:Nat=>⟨[(52,I .i64 k),(51,I .i64 l.length),(50,.c (.sl 2 (l.map zfa))),(11,.own 3),(10,.own 2),(7,.map 1),(2,.ptr 0 0 0)],[(0,.blk 28 (znz ⟨wf,wb,ws,wm,[],wn,wo⟩)),(1,.mp false 1 []),(2,.row 3 1 []),(3,.row 4 1 [])],4⟩) (fun k:Nat=>k≤l.length) (fun k:Nat=>l.length-k) (0) (Nat.zero_le _) (To.mk [0,1,2,3] rfl rfl (by decide) ?_ ?_) ?_
    ·simp(etaStruct := .none)only[push_cast,zab,seval]
    ·simp(etaStruct := .none)only[push_cast,zab,seval]
    rintro k hk
    iterate 2(try simp(etaStruct := .none)only[push_cast,zab,seval,List.getD_nil];try refine xsu ?_)
    refine cI (fun h4 => ?_) fun h4 => ?_
    ·have hlt:k<l.length:=by omega
     iterate 2(try simp(etaStruct := .none)only[push_cast,zab,seval,List.getD_nil,zaa _ _ _ hlt,zfa];try refine xsu ?_)
     repeat(with_reducible refine And.intro ?_ ?_;· (simp[zop];done))
     refine z3h ?_ ?_
     ·simp[zop]
     iterate 2(try simp(etaStruct := .none)only[push_cast,zab,seval,List.getD_nil,zaa _ _ _ hlt,zfa];try refine xsu ?_)
     (try(refine⟨by kernel_rfl,?_⟩))
     iterate 2(try simp(etaStruct := .none)only[push_cast,zab,seval,List.getD_nil,zaa _ _ _ hlt,zfa];try refine xsu ?_)
     refine cI (fun h5 => ?_) fun h5 => ?_
     ·iterate 2(try simp(etaStruct := .none)only[push_cast,zab,seval,List.getD_nil,zaa _ _ _ hlt,zfa];try refine xsu ?_)
      refine⟨k+1,by omega,by omega,To.mk [0,1,2,3] rfl rfl (by decide) ?_ ?_⟩
      ·(iterate 2((try simp(etaStruct := .none)only[push_cast,zab,seval,List.getD_nil,zaa _ _ _ hlt,zfa]);(try(refine xsu ?_;try exact xtI))))
      ·(iterate 2((try simp(etaStruct := .none)only[push_cast,zab,seval,List.getD_nil,zaa _ _ _ hlt,zfa]);(try(refine xsu ?_;try exact xtI))))
     ·simp[zop]at h5
    ·iterate 2(try simp(etaStruct := .none)only[push_cast,zab,seval,List.getD_nil];try refine xsu ?_)
     (first|(refine zaz rfl (Wk.of ?_);(try simp(etaStruct := .none)only[push_cast,zab,seval]);first|done|(simp[e,e2, *];done)|(simp_all[e,e2];done))|(refine zaz rfl ?_;(try simp(etaStruct := .none)only[push_cast,zab,seval]);(try simp[e,e2, *]);(try exact wkc)))
theorem yk1 (w:Wld) (l:List Blw) (id:Int) (t:Trp):0≤zwh w l id t∧zwh w l id t≤4:=by
 have:=zl2 t.kind
 unfold zwh
 split
 ·split<;>omega
 ·omega
theorem ye8 (w:Wld) (l:List Blw) (id:Int):∀ts:List Trp,0≤z4r (ts.map (zwh w l id))∧z4r (ts.map (zwh w l id))≤4*ts.length
 | []=>by simp[z4r]
 | t::r=>by
  have h1:=ye8 w l id r
  have h2:=yk1 w l id t
  simp only[z4r,List.map_cons,List.sum_cons,List.length_cons]at *
  omega
theorem zwi (w:Wld) (l:List Blw) (hl:zf7 w) (hll:l.length≤9223372036854775807):Spec Tryz.prog 88 [zdi w,.c (.sl 2 (l.map zfa))] [] (.tup [.c (.sl 1 ((zhq w l).map zae)),I .i64 (zbq w l)]) []:=by
 by_cases h:zbq w l=0
 ·have h1:zaw w=0:=by unfold zbq at h;split at h;rename_i h1;exact absurd h h1;rename_i h1;simpa using h1
  have h2:l.length≤200:=by unfold zbq at h;rw[if_neg (by simp[h1])]at h;split at h;simp at h;omega
  rcases Nat.eq_zero_or_pos w.troops.length with h3|h3
  ·exact ydx w l hl h1 h2 (List.eq_nil_of_length_eq_zero h3)
  ·exact ydw w l hl h1 h2 h3
 ·exact ydv w l hl hll h
theorem yg3 (w:Wld) (hw:zaw w=0):Spec Tryz.prog 89 [zdi w] [] (zdi w) []:=by
 obtain⟨w1,w2,w3,w4,w5⟩:=zdt hw
 obtain⟨v1,v2,v3,v4⟩:=zkw w4
 obtain⟨⟨f1,f2⟩,⟨f3,f4⟩,f5,f6⟩:=zbs w1
 have hm:w.f.w*w.f.h≤40*40:=Int.mul_le_mul f2 f4 (by omega) (by omega)
 refine spB Tryz.func89 26 [.cell 2 28] Tryz.results89 ?_
 try refine xst ?_
 refine caP (zbn w.f.p (by omega)) ?_
 try refine xst ?_
 refine caP (zpl w.bases (by omega)) ?_
 try refine xst ?_
 refine caP (zbn w.stocks (by omega)) ?_
 try refine xst ?_
 (try(refine⟨by kernel_rfl,?_⟩))
 try refine xst ?_
 refine caP (zbn w.mines (by omega)) ?_
 try refine xst ?_
 refine caP (zur w.troops (by omega)) ?_
 try refine xst ?_
 (try(refine⟨by kernel_rfl,?_⟩))
 try refine xst ?_
 exact xrz rfl
def yeu:Wld:=⟨⟨0,0,[]⟩,[],[],[],[],0,0⟩
def zrm (w:Wld) (l:List Blw) (k:Nat):List Trp:=((w.troops.take k).map (zd6 w l)).filter fun t=>decide (0<t.life)
def zo8 (w:Wld) (l:List Blw) (k:Nat):List Int:=(((w.troops.take k).map (zd6 w l)).filter fun t => !decide (0<t.life)).map (·.id)
theorem zyv (w:Wld) (l:List Blw) {k:Nat} (h:k<w.troops.length):zrm w l (k+1)=zrm w l k++(if 0<(zd6 w l (w.troops.getD k default)).life then [zd6 w l (w.troops.getD k default)]else []):=by
 unfold zrm
 rw[zas _ _ h,List.map_append,List.filter_append,List.map_cons,List.map_nil,List.filter_cons,List.filter_nil]
 simp only[decide_eq_true_eq]
theorem zy1 (w:Wld) (l:List Blw) {k:Nat} (h:k<w.troops.length):zo8 w l (k+1)=zo8 w l k++(if 0<(zd6 w l (w.troops.getD k default)).life then []else [(w.troops.getD k default).id]):=by
 unfold zo8
 rw[zas _ _ h,List.map_append,List.filter_append,List.map_cons,List.map_nil,List.filter_cons,List.filter_nil,List.map_append]
 by_cases h2:0<(zd6 w l (w.troops.getD k default)).life
 ·rw[if_pos h2,decide_eq_true h2];simp
 ·rw[if_neg h2,decide_eq_false h2];simp[zd6]
theorem z2d (w:Wld) (l:List Blw) (k:Nat):(zrm w l k).length≤k:=by
 have h1:=List.length_filter_le (fun t:Trp=>decide (0<t.life)) ((w.troops.take k).map (zd6 w l))
 rw[List.length_map,List.length_take]at h1
 exact Nat.le_trans h1 (Nat.min_le_left _ _)
theorem z25 (w:Wld) (l:List Blw) (k:Nat):(zo8 w l k).length≤k:=by
 unfold zo8
 rw[List.length_map]
 have h1:=List.length_filter_le (fun t:Trp => !decide (0<t.life)) ((w.troops.take k).map (zd6 w l))
 rw[List.length_map,List.length_take]at h1
 exact Nat.le_trans h1 (Nat.min_le_left _ _)
theorem z2e (w:Wld) (l:List Blw):zrm w l w.troops.length=zil w l:=by unfold zrm;rw[List.take_length];rfl
theorem z26 (w:Wld) (l:List Blw):zo8 w l w.troops.length=z7f w l:=by unfold zo8;rw[List.take_length];rfl
theorem z20 (w:Wld) (l:List Blw) (id:Int):0≤zgc w l id∧zgc w l id≤4*w.troops.length:=ye8 w l id w.troops
def ze3 (w:Wld) (l:List Blw):Wld:=if zbq w l=0 then ze2 w l else yeu
def zrx (w:Wld) (l:List Blw):List Int:=if zbq w l=0 then z7f w l else []
theorem ygs {w:Wld} (hw:zaw w=0) {k:Nat} (h:k<w.troops.length):1≤(w.troops.getD k default).life∧(w.troops.getD k default).life≤20:=by
 have h1:=(zfq hw h).1
 have:=h1.life
 have k1:(zbl 1).life=10:=rfl
 have k2:(zbl 2).life=20:=rfl
 rcases h1.kind with e|e
 ·rw[e,k1]at this;omega
 ·rw[e,k2]at this;omega
theorem z2s (w:Wld) (l:List Blw) (hl:zf7 w) (hll:l.length≤9223372036854775807) (h:zbq w l≠0):Spec Tryz.prog 47 [zdi w,.c (.sl 2 (l.map zfa))] [] (.tup [zdi (ze3 w l),.c (.sl 1 ((zrx w l).map zae)),I .i64 (zbq w l)]) []:=by
 have e1:ze3 w l=yeu:=by unfold ze3;rw[if_neg h]
 have e2:zrx w l = []:=by unfold zrx;rw[if_neg h]
 refine spB Tryz.func47 62 [.cell 4 28,.tmp 5,.tmp 6] Tryz.results47 ?_
 try refine xst ?_
 refine caP (zwi w l hl hll) ?_
 try refine xst ?_
 refine cI (fun h1 => ?_) fun h1 => ?_
 ·try refine xst ?_
  (first|(refine zaz rfl (Wk.of ?_);(try simp(etaStruct := .none)only[push_cast,zab,seval]);first|done|(simp[e1,e2,yeu, *];done)|(simp_all[e1,e2,yeu];done))|(refine zaz rfl ?_;(try simp(etaStruct := .none)only[push_cast,zab,seval]);(try simp[e1,e2,yeu, *]);(try exact wkc)))
 ·exact absurd h1 h
theorem zru (w:Wld) (l:List Blw) (hl:zf7 w) (hll:l.length≤9223372036854775807) (h:zbq w l=0):Spec Tryz.prog 47 [zdi w,.c (.sl 2 (l.map zfa))] [] (.tup [zdi (ze3 w l),.c (.sl 1 ((zrx w l).map zae)),I .i64 (zbq w l)]) []:=by
 have hw:zaw w=0:=by unfold zbq at h;split at h;rename_i h1;exact absurd h h1;rename_i h1;simpa using h1
 have w3:=(zdt hw).2.2.1
 have hr:zhq w l=zo7 w l:=by unfold zhq;rw[if_pos h]
 have hrl:(zo7 w l).length=w.troops.length:=by unfold zo7;rw[List.length_map]
 refine spB Tryz.func47 62 [.cell 4 28,.tmp 5,.tmp 6] Tryz.results47 ?_
 try refine xst ?_
 refine caP (zwi w l hl hll) ?_
 try refine xst ?_
 refine cI (fun h1 => ?_) fun h1 => ?_
 ·exact absurd h h1
 ·try refine xst ?_
  refine caP (yg3 w hw) ?_
  try refine xst ?_
  refine za3 (fun k:Nat=>⟨[(32,I .i64 k),(31,I .i64 w.troops.length),(30,.c (.sl 7 (w.troops.map za2))),(10,.own 2),(9,.own 3),(7,.c (.sl 1 ((zhq w l).map zae))),(4,.ptr 1 0 0),(2,.ptr 0 0 0)],[(0,.blk 28 (znz w)),(1,.blk 28 [I .i64 0,I .i64 0,.c (.v (.slice none 0 0)),.c (.v (.slice none 0 0)),.c (.v (.slice none 0 0)),.c (.v (.slice none 0 0)),.c (.v (.slice none 0 0)),I .i64 0,I .i64 0]),(2,.row 108 7 ((zrm w l k).map za2)),(3,.row 3 1 ((zo8 w l k).map zae))],4⟩) (fun k:Nat=>k≤w.troops.length) (fun k:Nat=>w.troops.length-k) (0) (Nat.zero_le _) ((To.nil 9 3 1 rfl).trans (To.mk [0,1,2,3] rfl rfl (by decide) ?_ ?_)) ?_
  ·simp(etaStruct := .none)only[push_cast,zab,seval,zrm,zo8,List.take_zero,List.map_nil,List.filter_nil]
  ·simp(etaStruct := .none)only[push_cast,zab,seval]
  rintro k hk
  try refine xst ?_
  refine cI (fun h2 => ?_) fun h2 => ?_
  ·have hlt:k<w.troops.length:=by omega
   have hrk:k<(zhq w l).length:=by rw[hr,hrl];exact hlt
   have hrv:(zhq w l).getD k default=zgc w l (w.troops.getD k default).id:=by
    rw[hr,zag _ _ (by rw[hrl];exact hlt)]
    simp only[zo7,List.getElem_map];rw[zag _ _ hlt]
   have hb:=z20 w l (w.troops.getD k default).id
   have hlb:=ygs hw hlt
   have st1:=zyv w l hlt
   have st2:=zy1 w l hlt
   have ll1:=z2d w l k
   have ll2:=z25 w l k
   have hwl:(zd6 w l (w.troops.getD k default)).life=(w.troops.getD k default).life-zgc w l (w.troops.getD k default).id:=rfl
   try refine xz5 (gd hlt) zbh (gd hrk) hrv zbe ?_
   (try(refine⟨by kernel_rfl,?_⟩))
   try refine xz5 (gd hlt) zbh (gd hrk) hrv zbe ?_
   refine cI (fun h3 => ?_) fun h3 => ?_
   ·rw[if_pos (by rw[hwl];exact h3)]at st1 st2
    rw[List.append_nil]at st2
    try refine xz5 (gd hlt) zbh (gd hrk) hrv zbe ?_
    refine⟨k+1,by omega,by omega,To.mk [0,1,42,3] rfl rfl (by decide) ?_ ?_⟩
    ·(iterate 2((try simp(etaStruct := .none)only[push_cast,zab,seval,st1,st2,List.map_append,za2,zd6]);(try(refine xsu ?_;try exact xtI))))
    ·(try(refine xz5 (gd hlt) zbh (gd hrk) hrv zbe ?_;try exact xtI))
   ·rw[if_neg (by rw[hwl];omega)]at st1 st2
    rw[List.append_nil]at st1
    try refine xz5 (gd hlt) zbh (gd hrk) hrv zbe ?_
    refine⟨k+1,by omega,by omega,To.mk [0,1,2,42] rfl rfl (by decide) ?_ ?_⟩
    ·(iterate 2((try simp(etaStruct := .none)only[push_cast,zab,seval,st1,st2,List.map_append,zae]);(try(refine xsu ?_;try exact xtI))))
    ·(try(refine xz5 (gd hlt) zbh (gd hrk) hrv zbe ?_;try exact xtI))
  ·obtain rfl:k=w.troops.length:=by omega
   have e1:ze3 w l=ze2 w l:=by unfold ze3;rw[if_pos h]
   have e2:zrx w l=z7f w l:=by unfold zrx;rw[if_pos h]
   rw[z2e,z26,e1,e2]
   try refine xst ?_
   (first|(refine zaz rfl (Wk.of ?_);(try simp(etaStruct := .none)only[push_cast,zab,seval]);first|done|(simp[ze2,h, *];done)|(simp_all[ze2,h];done))|(refine zaz rfl ?_;(try simp(etaStruct := .none)only[push_cast,zab,seval]);(try simp[ze2,h, *]);(try exact wkc)))
end Go.Proofs.YtmjbgbmegbkmhaaGreat
namespace Go.Proofs.YtmjbgbmegbkmhaaGreat
set_option linter.all false
open Go.RowKit
set_option maxRecDepth 100000
def zrr (id:Int) (t:Trp):Bool:=decide (t.id=id)
def yen (a b:Cel):Bool:=zaj b.x (a.x-1) (a.x+1)&&zaj b.y (a.y-1) (a.y+1)
def zb3 (t:Trp) (n:Int):Trp:={ t with load:=n }
def zlr (w:Wld) (i m:Nat):Wld:={ w with mines:=w.mines.set m (w.mines.getD m default-1),troops:=w.troops.set i (zb3 (w.troops.getD i default) ((w.troops.getD i default).load+1)) }
def zfh (w:Wld) (d:Ded) (i:Nat):Bool:=decide ((w.troops.getD i default).kind=1)&&decide ((w.troops.getD i default).load<5)&&yen (w.troops.getD i default).c d.c&&inF w.f d.c&&decide (0<w.mines.getD (zar w.f d.c) default)
def zg9 (w:Wld) (i:Nat):Int:=min (w.troops.getD i default).load (1000000-w.stocks.getD (w.troops.getD i default).owner.toNat default)
def ze0 (w:Wld) (i:Nat):Wld:={ w with stocks:=w.stocks.set (w.troops.getD i default).owner.toNat (w.stocks.getD (w.troops.getD i default).owner.toNat default+zg9 w i),troops:=w.troops.set i (zb3 (w.troops.getD i default) ((w.troops.getD i default).load-zg9 w i)) }
def znp (w:Wld) (i:Nat):Bool:=yen (w.bases.getD (w.troops.getD i default).owner.toNat default) (w.troops.getD i default).c
def zd2 (b:Cel):List Cel := [b,⟨b.x-1,b.y-1⟩,⟨b.x,b.y-1⟩,⟨b.x+1,b.y-1⟩,⟨b.x-1,b.y⟩,b,⟨b.x+1,b.y⟩,⟨b.x-1,b.y+1⟩,⟨b.x,b.y+1⟩,⟨b.x+1,b.y+1⟩]
def zr2 (w:Wld) (c:Cel):Bool:=zce w.f c && !(w.troops.any fun t=>decide (t.c=c))
def zt3 (w:Wld) (b:Cel):Option Cel:=(zd2 b).find? (zr2 w)
def zl6 (w:Wld) (d:Ded):Bool:=decide (0≤d.who)&&decide (d.who<w.bases.length)&&(decide (d.what=1)||decide (d.what=2))&&decide ((zbl d.what).price≤w.stocks.getD d.who.toNat default)&&decide (w.troops.length<100)&&decide (w.next<1000000)
def zd7 (w:Wld) (d:Ded) (c:Cel):Wld:={ w with troops:=w.troops ++ [⟨w.next,d.who,d.what,c,(zbl d.what).life,0⟩],next:=w.next+1,stocks:=w.stocks.set d.who.toNat (w.stocks.getD d.who.toNat default-(zbl d.what).price) }
def zgd (w:Wld) (d:Ded):Wld × Bool :=
 if d.kind=1 then match w.troops.findIdx? (zrr d.who)with
  | some i=>if zfh w d i then (zlr w i (zar w.f d.c),true)else (w,false)
  | none=>(w,false)
 else if d.kind=2 then match w.troops.findIdx? (zrr d.who)with
  | some i=>if znp w i then (ze0 w i,decide (0<zg9 w i))else (w,false)
  | none=>(w,false)
 else if d.kind=3 then (if zl6 w d then match zt3 w (w.bases.getD d.who.toNat default)with
  | some c=>(zd7 w d c,true)
  | none=>(w,false)
  else (w,false))
 else (w,false)
theorem zsp {w:Wld} {t:Trp} {n:Int} (h:TrpOk w t) (hn:0≤n∧n≤5*(2-t.kind)):TrpOk w (zb3 t n):=zh2 h.kind h.id h.owner h.at_ h.life hn
theorem zvq {w:Wld} (h:Right w) {i:Nat} (hi:i<w.troops.length):∃o:Nat,(w.troops.getD i default).owner=(o:Int)∧o<w.bases.length∧o<w.stocks.length:=by
 have:=(h.trp i hi).owner
 have hs:=h.sl
 refine⟨(w.troops.getD i default).owner.toNat,by omega,by omega,by omega⟩
theorem z9p {w:Wld} (h:Right w) {c:Cel} (hc:inF w.f c=true):zar w.f c<w.mines.length∧c.y*w.f.w+c.x=((zar w.f c:Nat):Int)∧0≤c.y*w.f.w∧c.y*w.f.w≤1600:=by
 obtain⟨i1,i2,i3,i4,i5⟩:=zby h.f hc
 have:=h.ml
 unfold zar;omega
theorem zm5 {w:Wld} (h:Right w) {i:Nat} (hi:i<w.troops.length) {n:Int} (hn:0≤n∧n≤5*(2-(w.troops.getD i default).kind)) {st mi:List Int} (hs:st.length=w.stocks.length) (hm:mi.length=w.mines.length) (hs2:∀j,j<st.length→0≤st.getD j default∧st.getD j default≤1000000) (hm2:∀j,j<mi.length→(0≤mi.getD j default∧mi.getD j default≤1000000)∧(mi.getD j default=0∨w.f.p.getD j default=3)) :
 Right { w with stocks:=st,mines:=mi,troops:=w.troops.set i (zb3 (w.troops.getD i default) n) }:=by
 have G:=fun p=>zir (zb3 (w.troops.getD i default) n) p hi
 refine⟨h.f,h.nb,by simpa using h.nt,by rw[hs];exact h.sl,by rw[hm];exact h.ml,h.nx,h.nw,fun j hj => ?_,hm2,fun k hk => ?_,fun j k hjk hk => ?_⟩
 ·obtain⟨a1,_,a3⟩:=h.base j hj
  exact⟨a1,hs2 j (by rw[hs,h.sl];exact hj),a3⟩
 ·have hk':k<w.troops.length:=by simpa using hk
  have e:∀t,TrpOk w t→TrpOk { w with stocks:=st,mines:=mi,troops:=w.troops.set i (zb3 (w.troops.getD i default) n) } t:=fun t ht=>⟨ht.kind,ht.id,ht.owner,ht.at_,ht.x,ht.y,ht.life,ht.load⟩
  simp only[G]
  split
  ·exact e _ (zsp (h.trp i hi) hn)
  ·exact e _ (h.trp k hk')
 ·have hk':k<w.troops.length:=by simpa using hk
  have:=h.ord j k hjk hk'
  simp only[G]
  have f1:∀m,(if m=i then zb3 (w.troops.getD i default) n else w.troops.getD m default).id=(w.troops.getD m default).id∧(if m=i then zb3 (w.troops.getD i default) n else w.troops.getD m default).c=(w.troops.getD m default).c:=fun m=>by
   split
   ·rename_i e;subst e;exact⟨rfl,rfl⟩
   ·exact⟨rfl,rfl⟩
  rw[(f1 j).1,(f1 k).1,(f1 j).2,(f1 k).2];exact this
theorem zx8 {w:Wld} (h:Right w) {i:Nat} (hi:i<w.troops.length) {d:Ded} (ho:zfh w d i=true):Right (zlr w i (zar w.f d.c)):=by
 unfold zfh at ho
 simp only[Bool.and_eq_true,decide_eq_true_eq]at ho
 obtain⟨⟨⟨⟨o1,o2⟩,_⟩,o4⟩,o5⟩:=ho
 obtain⟨m1,_⟩:=z9p h o4
 have hl:=(h.trp i hi).load
 have G:=fun p=>zir (w.mines.getD (zar w.f d.c) default-1) p m1
 refine zm5 h hi (by omega) rfl (by simp) (fun j hj=>(h.base j (by rw[←h.sl];exact hj)).2.1) (fun j hj => ?_)
 have hj':j<w.mines.length:=by simpa using hj
 rw[G]
 split
 ·rename_i e;subst e
  obtain⟨a1,a2⟩:=h.mine _ hj'
  exact⟨by omega,by rcases a2 with a2|a2;omega;exact .inr a2⟩
 ·exact h.mine j hj'
theorem zt9 {w:Wld} (h:Right w) {i:Nat} (hi:i<w.troops.length):0≤zg9 w i∧zg9 w i≤(w.troops.getD i default).load∧w.stocks.getD (w.troops.getD i default).owner.toNat default+zg9 w i≤1000000∧0≤w.stocks.getD (w.troops.getD i default).owner.toNat default:=by
 obtain⟨o,e,ho,hs⟩:=zvq h hi
 have hl:=(h.trp i hi).load
 have hb:=(h.base o ho).2.1
 have e2:(w.troops.getD i default).owner.toNat=o:=by omega
 unfold zg9
 rw[e2];omega
theorem zya {w:Wld} (h:Right w) {i:Nat} (hi:i<w.troops.length):Right (ze0 w i):=by
 obtain⟨o,e,ho,hs⟩:=zvq h hi
 have e2:(w.troops.getD i default).owner.toNat=o:=by omega
 have hl:=(h.trp i hi).load
 have hn:=zt9 h hi
 unfold ze0
 rw[e2]at hn ⊢
 have G:=fun p=>zir (w.stocks.getD o default+zg9 w i) p hs
 refine zm5 h hi (by omega) (by simp) rfl (fun j hj => ?_) (fun j hj=>h.mine j hj)
 rw[G]
 split
 ·omega
 ·exact(h.base j (by rw[←h.sl];simpa using hj)).2.1
theorem hireOk_iff {w:Wld} {d:Ded} : zl6 w d=true↔((((0≤d.who∧d.who<w.bases.length)∧(d.what=1∨d.what=2))∧(zbl d.what).price≤w.stocks.getD d.who.toNat default)∧w.troops.length<100)∧w.next<1000000:=by
 unfold zl6
 simp only[Bool.and_eq_true,Bool.or_eq_true,decide_eq_true_eq]
theorem z0j {α : Type} [Inhabited α] (l:List α) (x : α) (k:Nat):(l ++ [x]).getD k default=if k<l.length then l.getD k default else if k=l.length then x else default:=by
 by_cases h:k<l.length
 ·rw[if_pos h,zl7 _ _ _ h]
 ·rw[if_neg h]
  by_cases h2:k=l.length
  ·subst h2;rw[if_pos rfl,zag _ _ (by simp)];simp
  ·rw[if_neg h2];simp only[List.getD_eq_getElem?_getD];rw[List.getElem?_eq_none (by simp;omega)];rfl
theorem zx9 {w:Wld} (h:Right w) {d:Ded} (ho:zl6 w d=true) {c:Cel} (hc:zr2 w c=true):Right (zd7 w d c):=by
 obtain⟨⟨⟨⟨⟨o1,o2⟩,o3⟩,o4⟩,o5⟩,o6⟩:=hireOk_iff.1 ho
 unfold zr2 at hc
 simp only[Bool.and_eq_true,Bool.not_eq_true',List.any_eq_false,decide_eq_true_eq]at hc
 obtain⟨c1,c2⟩:=hc
 have hs:d.who.toNat<w.stocks.length:=by rw[h.sl];omega
 have G:=fun p=>zir (w.stocks.getD d.who.toNat default-(zbl d.what).price) p hs
 have hp:0≤(zbl d.what).price:=by rcases o3 with e|e<;>rw[e]<;>decide
 have hx:=h.nx
 have T:=fun k=>z0j w.troops (⟨w.next,d.who,d.what,c,(zbl d.what).life,0⟩:Trp) k
 refine⟨h.f,h.nb,by simp only[zd7,List.length_append,List.length_cons,List.length_nil];omega,by simp only[zd7,List.length_set];exact h.sl,h.ml,by simp only[zd7];omega,h.nw,fun j hj => ?_,h.mine,fun k hk => ?_,fun j k hjk hk => ?_⟩
 ·obtain⟨a1,a2,a3⟩:=h.base j hj
  refine⟨a1,?_,a3⟩
  simp only[zd7,G]
  split
  ·rename_i e;subst e;omega
  ·exact a2
 ·simp only[zd7,List.length_append,List.length_cons,List.length_nil]at hk
  simp only[zd7,T]
  split
  ·rename_i hk2
   have ok:=h.trp k hk2
   exact zh2 ok.kind ⟨ok.id.1,by have:=ok.id.2;simp only;omega⟩ ok.owner ok.at_ ok.life ok.load
  ·rw[if_pos (by omega)]
   refine zh2 o3 ⟨hx.1,by simp only;omega⟩ ⟨o1,by simp only;omega⟩ c1 ⟨?_,Int.le_refl _⟩ ⟨Int.le_refl _,?_⟩
   ·rcases o3 with e|e<;>simp only<;>rw[e]<;>decide
   ·simp only;omega
 ·simp only[zd7,List.length_append,List.length_cons,List.length_nil]at hk
  simp only[zd7,T]
  rw[if_pos (show j<w.troops.length by omega)]
  split
  ·rename_i hk2
   exact h.ord j k hjk hk2
  ·have hj:j<w.troops.length:=by omega
   rw[if_pos (by omega)]
   have ok:=(h.trp j hj).id
   refine⟨by simp only;omega,fun e => ?_⟩
   exact c2 _ (zbj _ _ hj) e
theorem ziu {w:Wld} {id:Int} {i:Nat} (h:w.troops.findIdx? (zrr id)=some i):i<w.troops.length:=by
 obtain⟨hi,_⟩:=List.findIdx?_eq_some_iff_getElem.1 h
 exact hi
theorem zyb {w:Wld} (h:Right w) (d:Ded):Right (zgd w d).1:=by
 unfold zgd
 split
 ·split
  ·rename_i i hi
   split
   ·rename_i ho;exact zx8 h (ziu hi) ho
   ·exact h
  ·exact h
 ·split
  ·split
   ·rename_i i hi
    split
    ·exact zya h (ziu hi)
    ·exact h
   ·exact h
  ·split
   ·split
    ·rename_i ho
     split
     ·rename_i c hc;exact zx9 h ho (List.find?_some hc)
     ·exact h
    ·exact h
   ·exact h
def zbi (w:Wld):List Ded→Wld × List Bool
 | []=>(w,[])
 | d::r=>((zbi (zgd w d).1 r).1,(zgd w d).2::(zbi (zgd w d).1 r).2)
theorem zua (l:List Ded) (d:Ded):∀w,zbi w (l ++ [d])=((zgd (zbi w l).1 d).1,(zbi w l).2 ++ [(zgd (zbi w l).1 d).2]):=by
 induction l with
 | nil=>intro w;rfl
 | cons a r ih=>intro w;simp only[List.cons_append,zbi];rw[ih]
theorem zlf (l:List Ded):∀ {w:Wld},Right w→Right (zbi w l).1:=by
 induction l with
 | nil=>intro w h;exact h
 | cons a r ih=>intro w h;exact ih (zyb h a)
theorem zzd (l:List Ded):∀w,(zbi w l).2.length=l.length:=by
 induction l with
 | nil=>intro w;rfl
 | cons a r ih=>intro w;simp only[zbi,List.length_cons,ih]
end Go.Proofs.YtmjbgbmegbkmhaaGreat
namespace Go.Proofs.YtmjbgbmegbkmhaaGreat
set_option linter.all false
open Go.RowKit
set_option maxRecDepth 100000
set_option maxHeartbeats 1000000
theorem z7g {α : Type} (l:List α) (i:Nat) (d : α) (h:i<l.length):l.getD i d=l[i]:=by simp[h]
abbrev zpu (d:Ded):AV := .agg [I .i64 d.kind,I .i64 d.who,I .i64 d.c.x,I .i64 d.c.y,I .i64 d.what]
abbrev yeg (w:Wld) (i j k:Nat):List AV := [I .i64 w.f.w,I .i64 w.f.h,.c (.sl 1 (w.f.p.map zae)),.c (.sl 2 (w.bases.map zbb)),.own i,.own j,.own k,I .i64 w.next,I .i64 w.now]
abbrev stR (w:Wld):Chunk := .row 3 1 (w.stocks.map zae)
abbrev miR (w:Wld):Chunk := .row 3 1 (w.mines.map zae)
abbrev trR (w:Wld):Chunk := .row 108 7 (w.troops.map za2)
abbrev zf5 (w:Wld):List Chunk := [.blk 200 (yeg w 1 2 3),stR w,miR w,trR w]
theorem yg7 (id:Int) (t:Trp):Spec Tryz.prog 182 ([] ++ [yed t] ++ [.fel 1 [[pI id]] 0 0]) [] (B (zrr id t)) []:=by
 refine spB Tryz.func182 8 [.tmp 3] Tryz.results182 ?_
 try refine xst ?_
 (first|(refine zaz rfl (Wk.of ?_);(try simp(etaStruct := .none)only[push_cast,zab,seval]);first|done|(simp[zrr, *];done)|(simp_all[zrr];done))|(refine zaz rfl ?_;(try simp(etaStruct := .none)only[push_cast,zab,seval]);(try simp[zrr, *]);(try exact wkc)))
theorem zwn (w:Wld) (id:Int) (hw:Right w) (h:w.troops.findIdx? (zrr id)=none):Spec Tryz.prog 165 [.ptr 0 0 0,I .i64 id] (zf5 w) (.c (.v (.pointer none))) (zf5 w):=by
 have hz:zkm (zrr id) w.troops = -1:=by unfold zkm;rw[h]
 have hnt:=hw.nt
 refine spB Tryz.func165 22 [.tmp 4] Tryz.results165 ?_
 try refine xst ?_
 refine zcw (zz4 _ [] [.fel 1 [[pI id]] 0 0] w.troops (zrr id) (by omega) (fun t _=>yg7 id t) (fun _=>rfl) (fun _=>rfl)) (WkL.refl _) rfl ?_
 rw[hz]
 try refine xst ?_
 refine cI (fun h1 => ?_) fun h1 => ?_
 ·try refine xst ?_
  refine zbc [0,1,2,3] rfl rfl (by decide) ⟨?_,?_,?_,?_,trivial⟩ trivial ?_<;>simp(etaStruct := .none)only[push_cast,zab,seval]
 ·exact absurd h1 (by decide)
theorem zwm (w:Wld) (id:Int) (i:Nat) (hw:Right w) (h:w.troops.findIdx? (zrr id)=some i):Spec Tryz.prog 165 [.ptr 0 0 0,I .i64 id] (zf5 w) (.ptr 3 i 0) (zf5 w):=by
 have hz:zkm (zrr id) w.troops=(i:Int):=by unfold zkm;rw[h]
 have hnt:=hw.nt
 have hi:=ziu h
 refine spB Tryz.func165 22 [.tmp 4] Tryz.results165 ?_
 try refine xst ?_
 refine zcw (zz4 _ [] [.fel 1 [[pI id]] 0 0] w.troops (zrr id) (by omega) (fun t _=>yg7 id t) (fun _=>rfl) (fun _=>rfl)) (WkL.refl _) rfl ?_
 rw[hz]
 try refine xst ?_
 refine cI (fun h1 => ?_) fun h1 => ?_
 ·omega
 ·try refine xst ?_
  refine zbc [0,1,2,3] rfl rfl (by decide) ⟨?_,?_,?_,?_,trivial⟩ trivial ?_<;>simp(etaStruct := .none)only[push_cast,zab,seval]
theorem z9r (a b:Cel) (ha : -1000000≤a.x∧a.x≤1000000 ∧ -1000000≤a.y∧a.y≤1000000):Spec Tryz.prog 166 [zhv a,zhv b] [] (B (yen a b)) []:=by
 refine spB Tryz.func166 35 [.tmp 4] Tryz.results166 ?_
 try refine xst ?_
 (first|(refine zaz rfl (Wk.of ?_);(try simp(etaStruct := .none)only[push_cast,zab,seval]);first|done|(simp[yen,zaj,Bool.and_assoc, *];done)|(simp_all[yen,zaj,Bool.and_assoc];done))|(refine zaz rfl ?_;(try simp(etaStruct := .none)only[push_cast,zab,seval]);(try simp[yen,zaj,Bool.and_assoc, *]);(try exact wkc)))
theorem zy2 (w:Wld) (d:Ded) (hw:Right w) (h:w.troops.findIdx? (zrr d.who)=none):Spec Tryz.prog 135 [.ptr 0 0 0,zpu d] (zf5 w) (B false) (zf5 w):=by
 refine spB Tryz.func135 88 [.tmp 4] Tryz.results135 ?_
 try refine xst ?_
 refine caM [0,1,2,3] (zwn w d.who hw h) ?_
 try refine xst ?_
 refine z3h ?_ ?_
 ·rfl
 try refine xst ?_
 (try(refine⟨by kernel_rfl,?_⟩))
 try refine xst ?_
 refine cI (fun h1 => ?_) fun h1 => ?_
 ·try refine xst ?_
  refine zbc [0,1,2,3] rfl rfl (by decide) ⟨?_,?_,?_,?_,trivial⟩ trivial ?_<;>simp(etaStruct := .none)only[push_cast,zab,seval]
 ·exact absurd h1 (by decide)
theorem z27 (w:Wld) (d:Ded) (i:Nat) (hw:Right w) (h:w.troops.findIdx? (zrr d.who)=some i) (b:Bool) (W:Wld) (hW:(zfh w d i=true→W=zlr w i (zar w.f d.c)∧b=true)∧(zfh w d i=false→W=w∧b=false)):Spec Tryz.prog 135 [.ptr 0 0 0,zpu d] (zf5 w) (B b) (zf5 W):=by
 have hi:=ziu h
 have ok:=hw.trp i hi
 have hav:atV w.f d.c=if inF w.f d.c then (zao w.f d.c,0)else (0,7):=by unfold atV;rw[if_neg (by simp[hw.f])]
 have hx:=ok.x;have hy:=ok.y
 have hfl:=zbs hw.f
 have hld:=ok.load
 refine spB Tryz.func135 88 [.tmp 4] Tryz.results135 ?_
 try refine xz2 (gd hi) zbh ?_
 refine caM [0,1,2,3] (zwm w d.who i hw h) ?_
 try refine xz2 (gd hi) zbh ?_
 refine gcP (fun hcc=>z9r (w.troops.getD i default).c d.c (by omega)) ?_
 try refine xz2 (gd hi) zbh ?_
 (try(refine⟨by kernel_rfl,?_⟩))
 try refine xz2 (gd hi) zbh ?_
 refine cI (fun h1 => ?_) fun h1 => ?_
 ·have e:zfh w d i=false:=by
   unfold zfh
   simp only[Bool.and_eq_false_iff,decide_eq_false_iff_not]
   rcases h1 with (h1|h1)|h1
   ·exact .inl (.inl (.inl (.inl (by omega))))
   ·exact .inl (.inl (.inl (.inr (by omega))))
   ·exact .inl (.inl (.inr h1))
  obtain⟨rfl,rfl⟩:=hW.2 e
  try refine xz2 (gd hi) zbh ?_
  refine zbc [0,1,2,3] rfl rfl (by decide) ⟨?_,?_,?_,?_,trivial⟩ trivial ?_<;>simp(etaStruct := .none)only[push_cast,zab,seval,zlr,zb3,List.map_set,zae,za2]
 ·try refine xz2 (gd hi) zbh ?_
  refine caP (zzs w.f d.c hw.l.1) ?_
  rw[hav]
  try refine xz2 (gd hi) zbh ?_
  (try(refine⟨by kernel_rfl,?_⟩))
  try refine xz2 (gd hi) zbh ?_
  refine cI (fun h2 => ?_) fun h2 => ?_
  ·have hin:inF w.f d.c=false:=by
    cases hc:inF w.f d.c with
    | false=>rfl
    | true=>rw[hc]at h2;simp at h2
   have e:zfh w d i=false:=by unfold zfh;rw[hin];simp
   obtain⟨rfl,rfl⟩:=hW.2 e
   try refine xz2 (gd hi) zbh ?_
   refine zbc [0,1,2,3] rfl rfl (by decide) ⟨?_,?_,?_,?_,trivial⟩ trivial ?_<;>simp(etaStruct := .none)only[push_cast,zab,seval,zlr,zb3,List.map_set,zae,za2]
  ·have hin:inF w.f d.c=true:=by
    cases hc:inF w.f d.c with
    | true=>rfl
    | false=>rw[hc]at h2;simp at h2
   obtain⟨m1,m2,m3,m4⟩:=z9p hw hin
   obtain⟨m,hm⟩:∃m,m=zar w.f d.c:=⟨_,rfl⟩
   rw[←hm]at m1 m2
   have hml:=hw.ml
   have hpl:=hw.places
   have ew1:IntKind.i64.wrap (IntKind.i64.wrap (d.c.y*w.f.w)+d.c.x)=(m:Int):=by rw[zaq (d.c.y*w.f.w) (by omega) (by omega),zaq _ (by omega) (by omega)];exact m2
   have hmb:=(hw.mine m m1).1
   try refine xz5 (gd hi) zbh ew1 (gd m1) zbe ?_
   (try(refine⟨by kernel_rfl,?_⟩))
   try refine xz5 (gd hi) zbh ew1 (gd m1) zbe ?_
   refine cI (fun h3 => ?_) fun h3 => ?_
   ·have e:zfh w d i=false:=by
     unfold zfh
     rw[←hm,h3];simp
    obtain⟨rfl,rfl⟩:=hW.2 e
    try refine xz5 (gd hi) zbh ew1 (gd m1) zbe ?_
    refine zbc [0,1,2,3] rfl rfl (by decide) ⟨?_,?_,?_,?_,trivial⟩ trivial ?_<;>simp(etaStruct := .none)only[push_cast,zab,seval,zlr,zb3,List.map_set,zae,za2]
   ·have e:zfh w d i=true:=by
     unfold zfh
     rw[←hm,hin]
     simp only[Bool.and_eq_true,decide_eq_true_eq]
     exact⟨⟨⟨⟨by omega,by omega⟩,h1.2⟩,trivial⟩,by omega⟩
    obtain⟨rfl,rfl⟩:=hW.1 e
    rw[←hm]
    try refine xz5 (gd hi) zbh ew1 (gd m1) zbe ?_
    refine zbc [0,1,2,3] rfl rfl (by decide) ⟨?_,?_,?_,?_,trivial⟩ trivial ?_<;>simp(etaStruct := .none)only[push_cast,zab,seval,zlr,zb3,List.map_set,zae,za2]
theorem zy4 (w:Wld) (d:Ded) (hw:Right w) (h:w.troops.findIdx? (zrr d.who)=none):Spec Tryz.prog 136 [.ptr 0 0 0,zpu d] (zf5 w) (B false) (zf5 w):=by
 refine spB Tryz.func136 80 [.tmp 4] Tryz.results136 ?_
 try refine xst ?_
 refine caM [0,1,2,3] (zwn w d.who hw h) ?_
 try refine xst ?_
 refine z3h ?_ ?_
 ·rfl
 try refine xst ?_
 (try(refine⟨by kernel_rfl,?_⟩))
 try refine xst ?_
 refine cI (fun h1 => ?_) fun h1 => ?_
 ·try refine xst ?_
  refine zbc [0,1,2,3] rfl rfl (by decide) ⟨?_,?_,?_,?_,trivial⟩ trivial ?_<;>simp(etaStruct := .none)only[push_cast,zab,seval]
 ·exact absurd h1 (by decide)
theorem drop_zero {w:Wld} (hw:Right w) {i:Nat} (hi:i<w.troops.length) (h:(w.troops.getD i default).load=0):zg9 w i=0∧ze0 w i=w:=by
 have hn:=zt9 hw hi
 have h0:zg9 w i=0:=by omega
 obtain⟨o,e,ho,hs⟩:=zvq hw hi
 refine⟨h0,?_⟩
 unfold ze0
 rw[h0,Int.add_zero,Int.sub_zero,zu7 _ _ (by omega)]
 have:zb3 (w.troops.getD i default) (w.troops.getD i default).load=w.troops.getD i default:=rfl
 rw[this,zu7 _ _ hi]
theorem z3g (w:Wld) (d:Ded) (i:Nat) (hw:Right w) (h:w.troops.findIdx? (zrr d.who)=some i) (b:Bool) (W:Wld) (hW:(znp w i=true→W=ze0 w i∧b=decide (0<zg9 w i))∧(znp w i=false→W=w∧b=false)):Spec Tryz.prog 136 [.ptr 0 0 0,zpu d] (zf5 w) (B b) (zf5 W):=by
 have hi:=ziu h
 have ok:=hw.trp i hi
 obtain⟨o,eo,ho,hs⟩:=zvq hw hi
 have hn:=zt9 hw hi
 have hb:=hw.base o ho
 have hbx:=inF_iff.1 (ground_iff.1 hb.1).1
 have hfl:=zbs hw.f
 have hld:=ok.load
 have eo2:(w.troops.getD i default).owner.toNat=o:=by omega
 have edN:zg9 w i=min (w.troops.getD i default).load (1000000-w.stocks.getD o default):=by unfold zg9;rw[eo2]
 have ew1:IntKind.i64.wrap (1000000-w.stocks.getD o default)=1000000-w.stocks.getD o default:=zaq _ (by omega) (by omega)
 have emn:(if 1000000-w.stocks.getD o default<(w.troops.getD i default).load then 1000000-w.stocks.getD o default else (w.troops.getD i default).load)=zg9 w i:=by rw[edN];split<;>omega
 rw[eo2]at hn
 have ew3:IntKind.i64.wrap ((w.troops.getD i default).load-zg9 w i)=(w.troops.getD i default).load-zg9 w i:=zaq _ (by rcases ok.kind with k|k<;>omega) (by rcases ok.kind with k|k<;>omega)
 have setg:∀x:List PV,((w.troops.map za2).set i x).getD i []=x:=fun x=>by rw[z7g _ _ _ (by simpa using hi)];simp
 refine spB Tryz.func136 80 [.tmp 4] Tryz.results136 ?_
 iterate 2(try simp(etaStruct := .none)only[push_cast,zab,seval,setg,zaa _ _ _ hi,za2,eo,zaa _ _ _ ho,zbb,zaa _ _ _ hs,zae,ew1,emn];try refine xsu ?_)
 refine caM [0,1,2,3] (zwm w d.who i hw h) ?_
 iterate 2(try simp(etaStruct := .none)only[push_cast,zab,seval,setg,zaa _ _ _ hi,za2,eo,zaa _ _ _ ho,zbb,zaa _ _ _ hs,zae,ew1,emn];try refine xsu ?_)
 refine gcP (fun hcc=>z9r (w.bases.getD o default) (w.troops.getD i default).c (by omega)) ?_
 iterate 2(try simp(etaStruct := .none)only[push_cast,zab,seval,setg,zaa _ _ _ hi,za2,eo,zaa _ _ _ ho,zbb,zaa _ _ _ hs,zae,ew1,emn];try refine xsu ?_)
 (try(refine⟨by kernel_rfl,?_⟩))
 iterate 2(try simp(etaStruct := .none)only[push_cast,zab,seval,setg,zaa _ _ _ hi,za2,eo,zaa _ _ _ ho,zbb,zaa _ _ _ hs,zae,ew1,emn];try refine xsu ?_)
 refine cI (fun h1 => ?_) fun h1 => ?_
 ·have hd:W=w∧b=false:=by
   rcases h1 with h1|h1
   ·obtain⟨z1,z2⟩:=drop_zero hw hi h1
    cases hk:znp w i with
    | true=>obtain⟨q1,q2⟩:=hW.1 hk;rw[q1,q2,z1,z2];exact⟨rfl,rfl⟩
    | false=>exact hW.2 hk
   ·exact hW.2 (by unfold znp;rw[eo2];exact h1)
  obtain⟨rfl,rfl⟩:=hd
  iterate 2(try simp(etaStruct := .none)only[push_cast,zab,seval,setg,zaa _ _ _ hi,za2,eo,zaa _ _ _ ho,zbb,zaa _ _ _ hs,zae,ew1,emn];try refine xsu ?_)
  refine zbc [0,1,2,3] rfl rfl (by decide) ⟨?_,?_,?_,?_,trivial⟩ trivial ?_
  ·simp(etaStruct := .none)only[push_cast,zab,seval,ze0]
  ·simp(etaStruct := .none)only[push_cast,zab,seval,ze0,eo2,List.map_set,zae]
  ·simp(etaStruct := .none)only[push_cast,zab,seval,ze0]
  ·simp(etaStruct := .none)only[push_cast,zab,seval,ze0,zb3,List.map_set,za2,eo,ew3]
  ·simp(etaStruct := .none)only[push_cast,zab,seval]
 ·obtain⟨rfl,rfl⟩:=hW.1 (by unfold znp;rw[eo2];exact h1.2)
  iterate 2(try simp(etaStruct := .none)only[push_cast,zab,seval,setg,zaa _ _ _ hi,za2,eo,zaa _ _ _ ho,zbb,zaa _ _ _ hs,zae,ew1,emn];try refine xsu ?_)
  (try(refine⟨by kernel_rfl,?_⟩))
  iterate 2(try simp(etaStruct := .none)only[push_cast,zab,seval,setg,zaa _ _ _ hi,za2,eo,zaa _ _ _ ho,zbb,zaa _ _ _ hs,zae,ew1,emn];try refine xsu ?_)
  (try(refine⟨by kernel_rfl,?_⟩))
  iterate 2(try simp(etaStruct := .none)only[push_cast,zab,seval,setg,zaa _ _ _ hi,za2,eo,zaa _ _ _ ho,zbb,zaa _ _ _ hs,zae,ew1,emn];try refine xsu ?_)
  refine zbc [0,1,2,3] rfl rfl (by decide) ⟨?_,?_,?_,?_,trivial⟩ trivial ?_
  ·simp(etaStruct := .none)only[push_cast,zab,seval,ze0]
  ·simp(etaStruct := .none)only[push_cast,zab,seval,ze0,eo2,List.map_set,zae]
  ·simp(etaStruct := .none)only[push_cast,zab,seval,ze0]
  ·simp(etaStruct := .none)only[push_cast,zab,seval,ze0,zb3,List.map_set,za2,eo,ew3]
  ·simp(etaStruct := .none)only[push_cast,zab,seval]
theorem yaq (F:FuncId) (a b:List AV) (l:List Trp) (p:Trp→Bool) (hl:l.length≤9223372036854775807) (hp:∀n∈l,Spec Tryz.prog F (a ++ [yed n]++b) [] (B (p n)) []) (ha:∀h,cvL [] h a=a) (hb:∀h,cvL [] h b=b) :
 Spec Tryz.prog 183 [.c (.sl 7 (l.map za2)),.clo (.func F) a b] [] (B (l.any p)) []:=by
 refine spB Tryz.func183 9 [.tmp 4] Tryz.results183 ?_
 simp(etaStruct := .none)only[push_cast,zab,seval]
 refine zem (zz4 F a b l p hl hp ha hb) (by simp only[ha,hb,cvL,cv];exact WkL.refl _) ?_
 simp(etaStruct := .none)only[push_cast,zab,seval]
 exact zbr rfl trivial (Wk.of (by rw[zgw];rfl))
theorem yk7 (t:Trp) (c:Cel):Spec Tryz.prog 184 ([] ++ [yed t] ++ [.fel 2 [[pI c.x,pI c.y]] 0 0]) [] (B (decide (t.c=c))) []:=by
 refine spB Tryz.func184 8 [.tmp 3] Tryz.results184 ?_
 try refine xz1 zd5 ?_
 exact xrz rfl
theorem z4k (b:Cel) {i j:Nat} (hi:i<3) (hj:j<3):(zd2 b).getD (1+3*i+j) default=⟨b.x+((j:Int)-1),b.y+((i:Int)-1)⟩:=by
 have h1:i=0∨i=1∨i=2:=by omega
 have h2:j=0∨j=1∨j=2:=by omega
 obtain⟨x,y⟩:=b
 have e1:x+(((1:Nat):Int)-1)=x:=by omega
 have e2:y+(((1:Nat):Int)-1)=y:=by omega
 have e3:x+(((0:Nat):Int)-1)=x-1:=by omega
 have e4:y+(((0:Nat):Int)-1)=y-1:=by omega
 have e5:x+(((2:Nat):Int)-1)=x+1:=by omega
 have e6:y+(((2:Nat):Int)-1)=y+1:=by omega
 rcases h1 with rfl|rfl|rfl<;>rcases h2 with rfl|rfl|rfl<;>simp only[e1,e2,e3,e4,e5,e6]<;>rfl
theorem zui (b:Cel) {i j:Nat} (hi:i<3) (hj:j<3):(zd2 b).take (1+3*i+(j+1))=(zd2 b).take (1+3*i+j) ++ [(⟨b.x+((j:Int)-1),b.y+((i:Int)-1)⟩:Cel)]:=by
 rw[←z4k b hi hj]
 change (zd2 b).take ((1+3*i+j)+1)=_
 exact zas _ _ (by rw[show (zd2 b).length=10 from rfl];omega)
theorem z3b (w:Wld) (b:Cel) (hw:Right w) (hb : -1000≤b.x∧b.x≤1000 ∧ -1000≤b.y∧b.y≤1000) (c:Cel) (q:Bool) (h:(∀c',zt3 w b=some c'→c=c'∧q=true)∧(zt3 w b=none→c=⟨0,0⟩∧q=false)):Spec Tryz.prog 167 [.ptr 0 0 0,zhv b] (zf5 w) (.tup [zhv c,B q]) (zf5 w):=by
 have hal:(zd2 b).length=10:=rfl
 have hnt:=hw.nt
 have hav:∀c,atV w.f c=if inF w.f c then (zao w.f c,0)else (0,7):=fun c=>by unfold atV;rw[if_neg (by simp[hw.f])]
 refine spB Tryz.func167 70 [.cell 4 46,.tmp 5] Tryz.results167 ?_
 try refine xst ?_
 refine za3 (fun i:Nat=>⟨[(7,I .i64 ((i:Int)-1)),(6,.own 6),(4,.ptr 5 0 0),(3,.ptr 4 0 0),(0,.ptr 0 0 0)],[(0,.blk 200 (yeg w 1 2 3)),(1,stR w),(2,miR w),(3,trR w),(4,.blk 46 [I .i64 b.x,I .i64 b.y]),(5,.blk 46 [I .i64 0,I .i64 0]),(6,.row 46 2 (((zd2 b).take (1+3*i)).map zbb))],7⟩) (fun i:Nat=>i≤3) (fun i:Nat=>3-i) (0) (Nat.zero_le _) (To.mk [0,1,2,3,4,5,6] rfl rfl (by decide) ?_ ?_) ?_
 ·simp(etaStruct := .none)only[push_cast,zab,seval,zd2,zbb]
 ·simp(etaStruct := .none)only[push_cast,zab,seval,Int.zero_sub]
 rintro i hi
 try refine xst ?_
 refine cI (fun h1 => ?_) fun h1 => ?_
 ·have hi3:i<3:=by omega
  try refine xst ?_
  refine za3 (fun j:Nat=>⟨[(8,I .i64 ((j:Int)-1)),(7,I .i64 ((i:Int)-1)),(6,.own 6),(4,.ptr 5 0 0),(3,.ptr 4 0 0),(0,.ptr 0 0 0)],[(0,.blk 200 (yeg w 1 2 3)),(1,stR w),(2,miR w),(3,trR w),(4,.blk 46 [I .i64 b.x,I .i64 b.y]),(5,.blk 46 [I .i64 0,I .i64 0]),(6,.row 46 2 (((zd2 b).take (1+3*i+j)).map zbb))],7⟩) (fun j:Nat=>j≤3) (fun j:Nat=>3-j) (0) (Nat.zero_le _) (To.mk [0,1,2,3,4,5,6] rfl rfl (by decide) ?_ ?_) ?_
  ·simp(etaStruct := .none)only[push_cast,zab,seval]
  ·simp(etaStruct := .none)only[push_cast,zab,seval,Int.zero_sub]
  rintro j hj
  try refine xst ?_
  refine cI (fun h2 => ?_) fun h2 => ?_
  ·have hj3:j<3:=by omega
   have hst:=zui b hi3 hj3
   have hln:((zd2 b).take (1+3*i+j)).length≤10:=by rw[List.length_take,hal];omega
   try refine xst ?_
   refine⟨j+1,by omega,by omega,To.mk [0,1,2,3,4,5,8] rfl rfl (by decide) ?_ ?_⟩
   ·(iterate 2((try simp(etaStruct := .none)only[push_cast,zab,seval,hst,List.map_append,zbb]);(try(refine xsu ?_;try exact xtI))))
   ·(iterate 2((try simp(etaStruct := .none)only[push_cast,zab,seval,Int.add_sub_cancel,Int.sub_add_cancel]);(try(refine xsu ?_;try exact xtI))))
  ·obtain rfl:j=3:=by omega
   try refine xst ?_
   refine⟨i+1,by omega,by omega,To.mk [0,1,2,3,4,5,6] rfl rfl (by decide) ?_ ?_⟩
   ·(iterate 2((try simp(etaStruct := .none)only[push_cast,zab,seval,Nat.mul_add,Nat.mul_one,Nat.add_assoc]);(try(refine xsu ?_;try exact xtI))))
   ·(iterate 2((try simp(etaStruct := .none)only[push_cast,zab,seval,Int.add_sub_cancel,Int.sub_add_cancel]);(try(refine xsu ?_;try exact xtI))))
 ·obtain rfl:i=3:=by omega
  have hta:(zd2 b).take (1+3*3)=zd2 b:=rfl
  try refine xst ?_
  refine za3 (fun k:Nat=>⟨[(37,I .i64 k),(36,I .i64 10),(35,.own 6),(4,.ptr 5 0 0),(0,.ptr 0 0 0)],[(0,.blk 200 (yeg w 1 2 3)),(1,stR w),(2,miR w),(3,trR w),(4,.blk 46 [I .i64 b.x,I .i64 b.y]),(5,.blk 46 [I .i64 0,I .i64 0]),(6,.row 46 2 ((zd2 b).map zbb))],7⟩) (fun k:Nat=>k≤10∧∀j,j<k→zr2 w ((zd2 b).getD j default)=false) (fun k:Nat=>10-k) (0) (⟨Nat.zero_le _,fun j h=>absurd h (Nat.not_lt_zero _)⟩) (To.mk [0,1,2,3,4,5,6] rfl rfl (by decide) ?_ ?_) ?_
  ·simp(etaStruct := .none)only[push_cast,zab,seval,hta]
  ·simp(etaStruct := .none)only[push_cast,zab,seval,hta,hal]
  rintro k ⟨hk,hn⟩
  try refine xst ?_
  refine za1 (fun h3 => ?_) (fun h3 => ?_)
  ·(try replace h3:=xhh h3)
   have hlt:k<(zd2 b).length:=by rw[hal];omega
   obtain⟨x,hx⟩:∃x,x=(zd2 b).getD k default:=⟨_,rfl⟩
   (iterate 2((try simp(etaStruct := .none) (maxSteps:=1000000)only[push_cast,zab,seval,zaa _ _ _ hlt,←hx,zbb]);(try(refine xsu ?_;try exact xtI))))
   refine caP (zzs w.f x hw.l.1) ?_
   rw[hav]
   (iterate 2((try simp(etaStruct := .none) (maxSteps:=1000000)only[push_cast,zab,seval,zaa _ _ _ hlt,←hx,zbb]);(try(refine xsu ?_;try exact xtI))))
   (try(refine⟨by kernel_rfl,?_⟩))
   (iterate 2((try simp(etaStruct := .none) (maxSteps:=1000000)only[push_cast,zab,seval,zaa _ _ _ hlt,←hx,zbb]);(try(refine xsu ?_;try exact xtI))))
   refine zl8 (fun hcc=>yaq _ [] [.fel 2 [[pI x.x,pI x.y]] 0 0] w.troops (fun t=>decide (t.c=x)) (by omega) (fun t _=>yk7 t x) (fun _=>rfl) (fun _=>rfl)) (WkL.refl _) rfl (by intro hc;(try simp(etaStruct := .none)only[push_cast,zab,seval]);(try simp_all)) ?_
   (iterate 2((try simp(etaStruct := .none) (maxSteps:=1000000)only[push_cast,zab,seval,zaa _ _ _ hlt,←hx,zbb]);(try(refine xsu ?_;try exact xtI))))
   refine cI (fun h4 => ?_) fun h4 => ?_
   ·have hfb:zr2 w x=true:=by
     unfold zr2 zce
     cases hc:inF w.f x with
     | false=>rw[hc]at h4;simp at h4
     | true =>
      rw[hc]at h4
      simp only[if_true]at h4
      rw[h4.2];simp;exact h4.1.2
    obtain⟨rfl,rfl⟩:=h.1 x (by unfold zt3;rw[hx];exact z7n _ _ k hlt (by rw[←hx];exact hfb) hn)
    (iterate 2((try simp(etaStruct := .none) (maxSteps:=1000000)only[push_cast,zab,seval,zaa _ _ _ hlt,←hx,zbb]);(try(refine xsu ?_;try exact xtI))))
    refine zbc [0,1,2,3] rfl rfl (by decide) ⟨?_,?_,?_,?_,trivial⟩ ?_ ?_<;>first|exact Wk.refl _|(try simp(etaStruct := .none)only[push_cast,zab,seval])
   ·have hfb:zr2 w x=false:=by
     unfold zr2 zce
     cases hc:inF w.f x with
     | false=>rfl
     | true =>
      rw[hc]at h4
      simp only[if_true]at h4
      rcases h4 with h4|h4
      ·by_cases hp:zao w.f x=1
       ·simp[hp]
       ·exact absurd (h4.resolve_left (fun n=>n trivial)) hp
      ·rw[h4];simp
    (iterate 2((try simp(etaStruct := .none) (maxSteps:=1000000)only[push_cast,zab,seval,zaa _ _ _ hlt,←hx,zbb]);(try(refine xsu ?_;try exact xtI))))
    refine⟨k+1,⟨by omega,fun j hj=>by
 rcases Nat.lt_or_ge j k with h'|h'
 ·exact hn j h'
 ·rw [show j = k by omega, ← hx]; exact hfb⟩, by omega, To.mk [0, 1, 2, 3, 4, 5, 6] rfl rfl (by decide) ?_ ?_⟩
    ·(iterate 2((try simp(etaStruct := .none) (maxSteps:=1000000)only[push_cast,zab,seval,zaa _ _ _ hlt,←hx,zbb]);(try(refine xsu ?_;try exact xtI))))
    ·(iterate 2((try simp(etaStruct := .none) (maxSteps:=1000000)only[push_cast,zab,seval,zaa _ _ _ hlt,←hx,zbb]);(try(refine xsu ?_;try exact xtI))))
  ·(try replace h3:=xhh h3)
   obtain⟨rfl,rfl⟩:=h.2 (z3l _ _ (fun j hj=>hn j (by rw[hal]at hj;omega)))
   try refine xst ?_
   refine zbc [0,1,2,3] rfl rfl (by decide) ⟨?_,?_,?_,?_,trivial⟩ ?_ ?_<;>first|exact Wk.refl _|(try simp(etaStruct := .none)only[push_cast,zab,seval])
end Go.Proofs.YtmjbgbmegbkmhaaGreat
namespace Go.Proofs.YtmjbgbmegbkmhaaGreat
set_option linter.all false
open Go.RowKit
set_option maxRecDepth 100000
set_option maxHeartbeats 2000000
theorem zl3 (k:Int):zgb k=0↔k=1∨k=2:=by unfold zgb;split<;>(try split)<;>omega
theorem zxf {w:Wld} (hw:Right w) {i:Nat} (hi:i<w.bases.length) : -1000≤(w.bases.getD i default).x∧(w.bases.getD i default).x≤1000 ∧ -1000≤(w.bases.getD i default).y∧(w.bases.getD i default).y≤1000:=by
 have:=inF_iff.1 (ground_iff.1 (hw.base i hi).1).1
 have:=zbs hw.f
 omega
theorem z3a (w:Wld) (d:Ded) (hw:Right w) (h:w.stocks.length≤d.who.toNat):Spec Tryz.prog 137 [.ptr 0 0 0,zpu d] (zf5 w) (B false) (zf5 w):=by
 have hsl:=hw.sl
 have hg:(w.stocks.map zae).getD d.who.toNat [] = []:=by
  simp only[List.getD_eq_getElem?_getD];rw[List.getElem?_eq_none (by rw[List.length_map];exact h)];rfl
 have hge:d.who<0∨(w.bases.length:Int)≤d.who:=by omega
 refine spB Tryz.func137 126 [.tmp 4] Tryz.results137 ?_
 (iterate 2((try simp(etaStruct := .none) (maxSteps:=1000000)only[push_cast,zab,seval,hg]);(try(refine xsu ?_;try exact xtI))))
 refine caP (zhh d.what) ?_
 (iterate 2((try simp(etaStruct := .none) (maxSteps:=1000000)only[push_cast,zab,seval,hg]);(try(refine xsu ?_;try exact xtI))))
 (try(refine⟨by kernel_rfl,?_⟩))
 (iterate 2((try simp(etaStruct := .none) (maxSteps:=1000000)only[push_cast,zab,seval,hg]);(try(refine xsu ?_;try exact xtI))))
 refine cI (fun h1 => ?_) fun h1 => ?_
 ·(iterate 2((try simp(etaStruct := .none) (maxSteps:=1000000)only[push_cast,zab,seval,hg]);(try(refine xsu ?_;try exact xtI))))
  refine zbc [0,1,2,3] rfl rfl (by decide) ⟨?_,?_,?_,?_,trivial⟩ trivial ?_<;>first|exact Wk.refl _|simp(etaStruct := .none)only[push_cast,zab,seval]
 ·exact absurd h1 (by decide)
theorem zwo (w:Wld) (d:Ded) (hw:Right w) (h:d.who.toNat<w.stocks.length) (hno:zl6 w d=false∨zt3 w (w.bases.getD d.who.toNat default)=none):Spec Tryz.prog 137 [.ptr 0 0 0,zpu d] (zf5 w) (B false) (zf5 w):=by
 have hsl:=hw.sl
 have hb:d.who.toNat<w.bases.length:=by omega
 have hbb:=zxf hw hb
 have hnt:=hw.nt
 refine spB Tryz.func137 126 [.tmp 4] Tryz.results137 ?_
 (iterate 2((try simp(etaStruct := .none) (maxSteps:=1000000)only[push_cast,zab,seval,zaa _ _ _ h,zaa _ _ _ hb,zae,zbb]);(try(refine xsu ?_;try exact xtI))))
 refine caP (zhh d.what) ?_
 (iterate 2((try simp(etaStruct := .none) (maxSteps:=1000000)only[push_cast,zab,seval,zaa _ _ _ h,zaa _ _ _ hb,zae,zbb]);(try(refine xsu ?_;try exact xtI))))
 (try(refine⟨by kernel_rfl,?_⟩))
 (iterate 2((try simp(etaStruct := .none) (maxSteps:=1000000)only[push_cast,zab,seval,zaa _ _ _ h,zaa _ _ _ hb,zae,zbb]);(try(refine xsu ?_;try exact xtI))))
 refine cI (fun h1 => ?_) fun h1 => ?_
 ·(iterate 2((try simp(etaStruct := .none) (maxSteps:=1000000)only[push_cast,zab,seval,zaa _ _ _ h,zaa _ _ _ hb,zae,zbb]);(try(refine xsu ?_;try exact xtI))))
  refine zbc [0,1,2,3] rfl rfl (by decide) ⟨?_,?_,?_,?_,trivial⟩ trivial ?_<;>first|exact Wk.refl _|simp(etaStruct := .none)only[push_cast,zab,seval]
 ·have hy:zl6 w d=true:=by rw[hireOk_iff,←zl3];exact⟨⟨⟨⟨⟨by omega,by omega⟩,by omega⟩,by omega⟩,by omega⟩,by omega⟩
  have hf:zt3 w (w.bases.getD d.who.toNat default)=none:=by rcases hno with h2|h2;rw[hy]at h2;simp at h2;exact h2
  (iterate 2((try simp(etaStruct := .none) (maxSteps:=1000000)only[push_cast,zab,seval,zaa _ _ _ h,zaa _ _ _ hb,zae,zbb]);(try(refine xsu ?_;try exact xtI))))
  refine zcb [0,1,2,3] (z3b w (w.bases.getD d.who.toNat default) hw hbb ⟨0,0⟩ false ⟨fun c' hc=>by rw[hf]at hc;simp at hc,fun _=>⟨rfl,rfl⟩⟩) (WkL.refl _) rfl (by decide) (by simp[zay,zb1,zf9]) ?_
  (iterate 2((try simp(etaStruct := .none) (maxSteps:=1000000)only[push_cast,zab,seval,zaa _ _ _ h,zaa _ _ _ hb,zae,zbb]);(try(refine xsu ?_;try exact xtI))))
  (try(refine⟨by kernel_rfl,?_⟩))
  (iterate 2((try simp(etaStruct := .none) (maxSteps:=1000000)only[push_cast,zab,seval,zaa _ _ _ h,zaa _ _ _ hb,zae,zbb]);(try(refine xsu ?_;try exact xtI))))
  refine cI (fun h2 => ?_) fun h2 => ?_
  ·(iterate 2((try simp(etaStruct := .none) (maxSteps:=1000000)only[push_cast,zab,seval,zaa _ _ _ h,zaa _ _ _ hb,zae,zbb]);(try(refine xsu ?_;try exact xtI))))
   refine zbc [0,1,2,3] rfl rfl (by decide) ⟨?_,?_,?_,?_,trivial⟩ trivial ?_<;>first|exact Wk.refl _|simp(etaStruct := .none)only[push_cast,zab,seval]
  ·exact absurd h2 (by decide)
abbrev z5l (w:Wld):List Chunk := [.blk 200 (yeg w 1 2 4),stR w,miR w,.dead,trR w]
theorem z29 (w:Wld) (d:Ded) (hw:Right w) (ho:zl6 w d=true) (c:Cel) (hc:zt3 w (w.bases.getD d.who.toNat default)=some c):Spec Tryz.prog 137 [.ptr 0 0 0,zpu d] (zf5 w) (B true) (z5l (zd7 w d c)):=by
 have hsl:=hw.sl
 have hoi:=hireOk_iff.1 ho
 rw[←zl3]at hoi
 have h:d.who.toNat<w.stocks.length:=by omega
 have hb:d.who.toNat<w.bases.length:=by omega
 have hbb:=zxf hw hb
 have hnt:=hw.nt
 have hnx:=hw.nx
 have hst:=(hw.base _ hb).2.1
 have hpr:0≤(zbl d.what).price∧(zbl d.what).price≤12:=by rcases (zl3 _).1 hoi.1.1.1.2 with e|e<;>rw[e]<;>decide
 have ew:IntKind.i64.wrap (w.stocks.getD d.who.toNat default-(zbl d.what).price)=w.stocks.getD d.who.toNat default-(zbl d.what).price:=zaq _ (by omega) (by omega)
 have ew2:IntKind.i64.wrap (w.next+1)=w.next+1:=zaq _ (by omega) (by omega)
 refine spB Tryz.func137 126 [.tmp 4] Tryz.results137 ?_
 (iterate 2((try simp(etaStruct := .none) (maxSteps:=1000000)only[push_cast,zab,seval,zaa _ _ _ h,zaa _ _ _ hb,zae,zbb,ew,ew2]);(try(refine xsu ?_;try exact xtI))))
 refine caP (zhh d.what) ?_
 (iterate 2((try simp(etaStruct := .none) (maxSteps:=1000000)only[push_cast,zab,seval,zaa _ _ _ h,zaa _ _ _ hb,zae,zbb,ew,ew2]);(try(refine xsu ?_;try exact xtI))))
 (try(refine⟨by kernel_rfl,?_⟩))
 (iterate 2((try simp(etaStruct := .none) (maxSteps:=1000000)only[push_cast,zab,seval,zaa _ _ _ h,zaa _ _ _ hb,zae,zbb,ew,ew2]);(try(refine xsu ?_;try exact xtI))))
 refine cI (fun h1 => ?_) fun h1 => ?_
 ·exfalso;omega
 ·(iterate 2((try simp(etaStruct := .none) (maxSteps:=1000000)only[push_cast,zab,seval,zaa _ _ _ h,zaa _ _ _ hb,zae,zbb,ew,ew2]);(try(refine xsu ?_;try exact xtI))))
  refine zcb [0,1,2,3] (z3b w (w.bases.getD d.who.toNat default) hw hbb c true ⟨fun c' hc'=>by rw[hc]at hc';exact⟨(Option.some.inj hc'),rfl⟩,fun hn=>by rw[hc]at hn;simp at hn⟩) (WkL.refl _) rfl (by decide) (by simp[zay,zb1,zf9]) ?_
  (iterate 2((try simp(etaStruct := .none) (maxSteps:=1000000)only[push_cast,zab,seval,zaa _ _ _ h,zaa _ _ _ hb,zae,zbb,ew,ew2]);(try(refine xsu ?_;try exact xtI))))
  (try(refine⟨by kernel_rfl,?_⟩))
  (iterate 2((try simp(etaStruct := .none) (maxSteps:=1000000)only[push_cast,zab,seval,zaa _ _ _ h,zaa _ _ _ hb,zae,zbb,ew,ew2]);(try(refine xsu ?_;try exact xtI))))
  refine cI (fun h2 => ?_) fun h2 => ?_
  ·exact absurd h2 (by decide)
  ·(iterate 2((try simp(etaStruct := .none) (maxSteps:=1000000)only[push_cast,zab,seval,zaa _ _ _ h,zaa _ _ _ hb,zae,zbb,ew,ew2]);(try(refine xsu ?_;try exact xtI))))
   (try(refine⟨by kernel_rfl,?_⟩))
   (iterate 2((try simp(etaStruct := .none) (maxSteps:=1000000)only[push_cast,zab,seval,zaa _ _ _ h,zaa _ _ _ hb,zae,zbb,ew,ew2]);(try(refine xsu ?_;try exact xtI))))
   (try(refine⟨by kernel_rfl,?_⟩))
   (iterate 2((try simp(etaStruct := .none) (maxSteps:=1000000)only[push_cast,zab,seval,zaa _ _ _ h,zaa _ _ _ hb,zae,zbb,ew,ew2]);(try(refine xsu ?_;try exact xtI))))
   refine zbc [0,1,2,3,350] rfl rfl (by decide) ⟨?_,?_,?_,?_,?_,trivial⟩ trivial ?_
   ·simp(etaStruct := .none) (maxSteps:=1000000)only[push_cast,zab,seval,zd7]
   ·simp(etaStruct := .none) (maxSteps:=1000000)only[push_cast,zab,seval,zd7,List.map_set,zae]
   ·simp(etaStruct := .none) (maxSteps:=1000000)only[push_cast,zab,seval,zd7]
   ·simp(etaStruct := .none) (maxSteps:=1000000)only[push_cast,zab,seval,zd7]
   ·simp(etaStruct := .none) (maxSteps:=1000000)only[push_cast,zab,seval,zd7,List.map_append,za2]
   ·exact Wk.refl _
theorem zt1 (w W:Wld) (d:Ded) (b:Bool) (h:d.kind=1) (M:Spec Tryz.prog 135 [.ptr 0 0 0,zpu d] (zf5 w) (B b) (zf5 W)):Spec Tryz.prog 93 [.ptr 0 0 0,zpu d] (zf5 w) (B b) (zf5 W):=by
 refine spB Tryz.func93 22 [.tmp 4] Tryz.results93 ?_
 try refine xst ?_
 refine cI (fun h1 => ?_) fun h1 => ?_
 ·try refine xst ?_
  refine caM [0,1,2,3] (M) ?_
  try refine xst ?_
  refine zbc [0,1,2,3] rfl rfl (by decide) ⟨?_,?_,?_,?_,trivial⟩ trivial ?_<;>first|exact Wk.refl _|simp(etaStruct := .none)only[push_cast,zab,seval]
 ·exact absurd h h1
theorem zt0 (w W:Wld) (d:Ded) (b:Bool) (h:d.kind=2) (M:Spec Tryz.prog 136 [.ptr 0 0 0,zpu d] (zf5 w) (B b) (zf5 W)):Spec Tryz.prog 93 [.ptr 0 0 0,zpu d] (zf5 w) (B b) (zf5 W):=by
 refine spB Tryz.func93 22 [.tmp 4] Tryz.results93 ?_
 try refine xst ?_
 refine cI (fun h1 => ?_) fun h1 => ?_
 ·exfalso;omega
 ·try refine xst ?_
  refine cI (fun h2 => ?_) fun h2 => ?_
  ·try refine xst ?_
   refine caM [0,1,2,3] (M) ?_
   try refine xst ?_
   refine zbc [0,1,2,3] rfl rfl (by decide) ⟨?_,?_,?_,?_,trivial⟩ trivial ?_<;>first|exact Wk.refl _|simp(etaStruct := .none)only[push_cast,zab,seval]
  ·exact absurd h h2
theorem ztz (w:Wld) (d:Ded) (h:d.kind=3) (M:Spec Tryz.prog 137 [.ptr 0 0 0,zpu d] (zf5 w) (B false) (zf5 w)):Spec Tryz.prog 93 [.ptr 0 0 0,zpu d] (zf5 w) (B false) (zf5 w):=by
 refine spB Tryz.func93 22 [.tmp 4] Tryz.results93 ?_
 try refine xst ?_
 refine cI (fun h1 => ?_) fun h1 => ?_
 ·exfalso;omega
 ·try refine xst ?_
  refine cI (fun h2 => ?_) fun h2 => ?_
  ·exfalso;omega
  ·try refine xst ?_
   refine cI (fun h3 => ?_) fun h3 => ?_
   ·try refine xst ?_
    refine caM [0,1,2,3] (M) ?_
    try refine xst ?_
    refine zbc [0,1,2,3] rfl rfl (by decide) ⟨?_,?_,?_,?_,trivial⟩ trivial ?_<;>first|exact Wk.refl _|simp(etaStruct := .none)only[push_cast,zab,seval]
   ·exact absurd h h3
theorem yc5 (w:Wld) (d:Ded) (h:d.kind≠1∧d.kind≠2∧d.kind≠3):Spec Tryz.prog 93 [.ptr 0 0 0,zpu d] (zf5 w) (B false) (zf5 w):=by
 refine spB Tryz.func93 22 [.tmp 4] Tryz.results93 ?_
 try refine xst ?_
 refine cI (fun h1 => ?_) fun h1 => ?_
 ·exfalso;omega
 ·try refine xst ?_
  refine cI (fun h2 => ?_) fun h2 => ?_
  ·exfalso;omega
  ·try refine xst ?_
   refine cI (fun h3 => ?_) fun h3 => ?_
   ·exfalso;omega
   ·try refine xst ?_
    refine zbc [0,1,2,3] rfl rfl (by decide) ⟨?_,?_,?_,?_,trivial⟩ trivial ?_<;>first|exact Wk.refl _|simp(etaStruct := .none)only[push_cast,zab,seval]
theorem yc4 (w W:Wld) (d:Ded) (h:d.kind=3) (M:Spec Tryz.prog 137 [.ptr 0 0 0,zpu d] (zf5 w) (B true) (z5l W)):Spec Tryz.prog 93 [.ptr 0 0 0,zpu d] (zf5 w) (B true) (z5l W):=by
 refine spB Tryz.func93 22 [.tmp 4] Tryz.results93 ?_
 try refine xst ?_
 refine cI (fun h1 => ?_) fun h1 => ?_
 ·exfalso;omega
 ·try refine xst ?_
  refine cI (fun h2 => ?_) fun h2 => ?_
  ·exfalso;omega
  ·try refine xst ?_
   refine cI (fun h3 => ?_) fun h3 => ?_
   ·try refine xst ?_
    refine caM [0,1,2,3] (M) ?_
    try refine xst ?_
    refine zbc [0,1,2,3,5] rfl rfl (by decide) ⟨?_,?_,?_,?_,?_,trivial⟩ trivial ?_<;>first|exact Wk.refl _|simp(etaStruct := .none)only[push_cast,zab,seval]
   ·exact absurd h h3
theorem yc3 (w:Wld) (d:Ded) (hw:Right w):Spec Tryz.prog 93 [.ptr 0 0 0,zpu d] (zf5 w) (B (zgd w d).2) (zf5 (zgd w d).1)∨Spec Tryz.prog 93 [.ptr 0 0 0,zpu d] (zf5 w) (B (zgd w d).2) (z5l (zgd w d).1):=by
 unfold zgd
 split
 ·rename_i h
  split
  ·rename_i i hi
   split
   ·rename_i ho;exact .inl (zt1 w _ d true h (z27 w d i hw hi true _ ⟨fun _=>⟨rfl,rfl⟩,fun h2=>by rw[ho]at h2;simp at h2⟩))
   ·rename_i ho;exact .inl (zt1 w _ d false h (z27 w d i hw hi false _ ⟨fun h2=>absurd h2 ho,fun _=>⟨rfl,rfl⟩⟩))
  ·rename_i hi;exact .inl (zt1 w _ d false h (zy2 w d hw hi))
 ·split
  ·rename_i h
   split
   ·rename_i i hi
    split
    ·rename_i ho;exact .inl (zt0 w _ d _ h (z3g w d i hw hi _ _ ⟨fun _=>⟨rfl,rfl⟩,fun h2=>by rw[ho]at h2;simp at h2⟩))
    ·rename_i ho;exact .inl (zt0 w _ d false h (z3g w d i hw hi false _ ⟨fun h2=>absurd h2 ho,fun _=>⟨rfl,rfl⟩⟩))
   ·rename_i hi;exact .inl (zt0 w _ d false h (zy4 w d hw hi))
  ·split
   ·rename_i h
    split
    ·rename_i ho
     split
     ·rename_i c hc;exact .inr (yc4 w _ d h (z29 w d hw ho c hc))
     ·rename_i hc
      have hoi:=hireOk_iff.1 ho
      exact .inl (ztz w d h (zwo w d hw (by have:=hw.sl;omega) (.inr hc)))
    ·rename_i ho
     rcases Nat.lt_or_ge d.who.toNat w.stocks.length with h2|h2
     ·exact .inl (ztz w d h (zwo w d hw h2 (.inl (by simpa using ho))))
     ·exact .inl (ztz w d h (z3a w d hw h2))
   ·exact .inl (yc5 w d ⟨by assumption,by assumption,by assumption⟩)
theorem yg8 (w:Wld) (hw:Right w):Spec Tryz.prog 92 [zdi w] [] (.agg [I .i64 w.f.w,I .i64 w.f.h,.c (.sl 1 (w.f.p.map zae)),.c (.sl 2 (w.bases.map zbb)),.own 0,.own 1,.own 2,I .i64 w.next,I .i64 w.now]) [stR w,miR w,trR w]:=by
 have h1:=hw.places
 have h2:=hw.nb
 have h3:=hw.sl
 have h4:=hw.ml
 have h5:=hw.nt
 refine spB Tryz.func92 26 [.cell 2 28] Tryz.results92 ?_
 try refine xst ?_
 refine caP (zbn w.f.p (by omega)) ?_
 try refine xst ?_
 refine caP (zpl w.bases (by omega)) ?_
 try refine xst ?_
 refine caM [] (zbv w.stocks (by omega)) ?_
 try refine xst ?_
 (try(refine⟨by kernel_rfl,?_⟩))
 try refine xst ?_
 refine caM [] (zbv w.mines (by omega)) ?_
 try refine xst ?_
 refine caM [] (zp1 w.troops (by omega)) ?_
 try refine xst ?_
 (try(refine⟨by kernel_rfl,?_⟩))
 try refine xst ?_
 refine zbc [22,50,62] rfl rfl (by decide) ⟨?_,?_,?_,trivial⟩ ?_ ?_<;>first|exact Wk.refl _|(try simp(etaStruct := .none)only[push_cast,zab,seval])
theorem ync (w:Wld) (l:List Ded) (hw:Right w) (hll:l.length≤200):Spec Tryz.prog 49 [zdi w,.c (.sl 5 (l.map zmm))] [] (.tup [zdi (zbi w l).1,.c (.sl 1 ((zbi w l).2.map zfl)),I .i64 0]) []:=by
 have he:=hw.e
 refine spB Tryz.func49 40 [.cell 4 28,.tmp 5,.tmp 6] Tryz.results49 ?_
 try refine xst ?_
 refine caP (zeq w hw.l) ?_
 try refine xst ?_
 refine cI (fun h1 => ?_) fun h1 => ?_
 ·exact absurd he h1
 ·try refine xst ?_
  refine cI (fun h2 => ?_) fun h2 => ?_
  ·omega
  ·try refine xst ?_
   refine caM [] (yg8 w hw) ?_
   try refine xst ?_
   refine za3 (fun k:Nat=>⟨[(27,I .i64 k),(26,I .i64 l.length),(25,.c (.sl 5 (l.map zmm))),(9,.own 5),(8,.ptr 1 0 0),(4,.ptr 0 0 0)],[(0,.blk 28 [I .i64 0,I .i64 0,.c (.v (.slice none 0 0)),.c (.v (.slice none 0 0)),.c (.v (.slice none 0 0)),.c (.v (.slice none 0 0)),.c (.v (.slice none 0 0)),I .i64 0,I .i64 0]),(1,.blk 200 (yeg (zbi w (l.take k)).1 2 3 4)),(2,stR (zbi w (l.take k)).1),(3,miR (zbi w (l.take k)).1),(4,trR (zbi w (l.take k)).1),(5,.row 4 1 ((zbi w (l.take k)).2.map zfl))],6⟩) (fun k:Nat=>k≤l.length) (fun k:Nat=>l.length-k) (0) (Nat.zero_le _) ((To.nil 9 4 1 rfl).trans (To.mk [1,5,2,3,4,6] rfl rfl (by decide) ?_ ?_)) ?_
   ·simp(etaStruct := .none)only[push_cast,zab,seval,List.take_zero,zbi]
   ·simp(etaStruct := .none)only[push_cast,zab,seval]
   rintro k hk
   try refine xst ?_
   refine cI (fun h3 => ?_) fun h3 => ?_
   ·have hlt:k<l.length:=by omega
    obtain⟨d,hd⟩:∃d,d=l.getD k default:=⟨_,rfl⟩
    have hst:zbi w (l.take (k+1))=((zgd (zbi w (l.take k)).1 d).1,(zbi w (l.take k)).2 ++ [(zgd (zbi w (l.take k)).1 d).2]):=by rw[zas _ _ hlt,←hd,zua]
    have hR:=zlf (l.take k) hw
    have hbl:=zzd (l.take k) w
    rw[List.length_take]at hbl
    generalize (zbi w (l.take k)).1=W at *
    generalize (zbi w (l.take k)).2=bs at *
    try refine xz3 (gd hlt) hd.symm yhi ?_
    rcases yc3 W d hR with M|M
    ·refine zcb [1,2,3,4] M (WkL.refl _) rfl (by decide) (by simp[zay]) ?_
     try refine xz1 z4e ?_
     refine⟨k+1,by omega,by omega,To.mk [0,1,2,3,4,8] rfl rfl (by decide) ?_ ?_⟩
     ·(iterate 2((try simp(etaStruct := .none)only[push_cast,zab,seval,hst,List.map_append,zfl]);(try(refine xsu ?_;try exact xtI))))
     ·(try(refine xst ?_;try exact xtI))
    ·refine zcb [1,2,3,4] M (WkL.refl _) rfl (by decide) (by simp[zay]) ?_
     try refine xz1 z4e ?_
     refine⟨k+1,by omega,by omega,To.mk [0,1,2,3,7,9] rfl rfl (by decide) ?_ ?_⟩
     ·(iterate 2((try simp(etaStruct := .none)only[push_cast,zab,seval,hst,List.map_append,zfl]);(try(refine xsu ?_;try exact xtI))))
     ·(try(refine xst ?_;try exact xtI))
   ·obtain rfl:k=l.length:=by omega
    iterate 2(try simp(etaStruct := .none)only[push_cast,zab,seval,List.take_length];try refine xsu ?_)
    exact xrz rfl
end Go.Proofs.YtmjbgbmegbkmhaaGreat
namespace Go.Proofs.YtmjbgbmegbkmhaaGreat
set_option linter.all false
open Go.RowKit
set_option maxRecDepth 100000
set_option maxHeartbeats 1000000
theorem z8p (o:Ord) (b:List Blw) (g:List Gop) (d:List Ded) (h:o.kind=1) (hb:b.length≤1000) :
 Spec Tryz.prog 87 [.ptr 0 0 0,zpt o] [.blk 193 [.own 1,.own 2,.own 3],.row 261 2 (b.map zfa),.row 263 3 (g.map ze7),.row 202 5 (d.map zmm)] (.tup [])
  [.blk 193 [.own 4,.own 2,.own 3],.dead,.row 263 3 (g.map ze7),.row 202 5 (d.map zmm),.row 261 2 ((b ++ [(⟨o.who,o.what⟩:Blw)]).map zfa)]:=by
 refine spB Tryz.func87 84 [] Tryz.results87 ?_
 try refine xst ?_
 refine cI (fun h1 => ?_) fun h1 => ?_
 ·try refine xst ?_
  (try(refine⟨by kernel_rfl,?_⟩))
  try refine xst ?_
  refine zbc [0,1,2,3,49] rfl rfl (by decide) ⟨?_,?_,?_,?_,?_,trivial⟩ trivial ?_
  ·simp(etaStruct := .none)only[push_cast,zab,seval]
  ·simp(etaStruct := .none)only[push_cast,zab,seval]
  ·simp(etaStruct := .none)only[push_cast,zab,seval]
  ·simp(etaStruct := .none)only[push_cast,zab,seval]
  ·simp(etaStruct := .none)only[push_cast,zab,seval,List.map_append,zfa]
  ·simp(etaStruct := .none)only[push_cast,zab,seval]
 ·omega
theorem yhw (o:Ord) (b:List Blw) (g:List Gop) (d:List Ded) (h:o.kind=2) (hb:g.length≤1000) :
 Spec Tryz.prog 87 [.ptr 0 0 0,zpt o] [.blk 193 [.own 1,.own 2,.own 3],.row 261 2 (b.map zfa),.row 263 3 (g.map ze7),.row 202 5 (d.map zmm)] (.tup [])
  [.blk 193 [.own 1,.own 4,.own 3],.row 261 2 (b.map zfa),.dead,.row 202 5 (d.map zmm),.row 263 3 ((g ++ [(⟨o.who,o.c⟩:Gop)]).map ze7)]:=by
 refine spB Tryz.func87 84 [] Tryz.results87 ?_
 try refine xst ?_
 refine cI (fun h1 => ?_) fun h1 => ?_
 ·omega
 ·try refine xst ?_
  refine cI (fun h2 => ?_) fun h2 => ?_
  ·try refine xst ?_
   (try(refine⟨by kernel_rfl,?_⟩))
   try refine xst ?_
   refine zbc [0,1,2,3,49] rfl rfl (by decide) ⟨?_,?_,?_,?_,?_,trivial⟩ trivial ?_
   ·simp(etaStruct := .none)only[push_cast,zab,seval]
   ·simp(etaStruct := .none)only[push_cast,zab,seval]
   ·simp(etaStruct := .none)only[push_cast,zab,seval]
   ·simp(etaStruct := .none)only[push_cast,zab,seval]
   ·simp(etaStruct := .none)only[push_cast,zab,seval,List.map_append,ze7]
   ·simp(etaStruct := .none)only[push_cast,zab,seval]
  ·omega
theorem z8m (o:Ord) (b:List Blw) (g:List Gop) (d:List Ded) (h:o.kind=3) (hb:d.length≤1000) :
 Spec Tryz.prog 87 [.ptr 0 0 0,zpt o] [.blk 193 [.own 1,.own 2,.own 3],.row 261 2 (b.map zfa),.row 263 3 (g.map ze7),.row 202 5 (d.map zmm)] (.tup [])
  [.blk 193 [.own 1,.own 2,.own 4],.row 261 2 (b.map zfa),.row 263 3 (g.map ze7),.dead,.row 202 5 ((d ++ [(⟨1,o.who,o.c,0⟩:Ded)]).map zmm)]:=by
 refine spB Tryz.func87 84 [] Tryz.results87 ?_
 try refine xst ?_
 refine cI (fun h1 => ?_) fun h1 => ?_
 ·omega
 ·try refine xst ?_
  refine cI (fun h2 => ?_) fun h2 => ?_
  ·omega
  ·try refine xst ?_
   refine cI (fun h3 => ?_) fun h3 => ?_
   ·try refine xst ?_
    (try(refine⟨by kernel_rfl,?_⟩))
    try refine xst ?_
    refine zbc [0,1,2,3,49] rfl rfl (by decide) ⟨?_,?_,?_,?_,?_,trivial⟩ trivial ?_
    ·simp(etaStruct := .none)only[push_cast,zab,seval]
    ·simp(etaStruct := .none)only[push_cast,zab,seval]
    ·simp(etaStruct := .none)only[push_cast,zab,seval]
    ·simp(etaStruct := .none)only[push_cast,zab,seval]
    ·simp(etaStruct := .none)only[push_cast,zab,seval,List.map_append,zmm]
    ·simp(etaStruct := .none)only[push_cast,zab,seval]
   ·omega
theorem z8o (o:Ord) (b:List Blw) (g:List Gop) (d:List Ded) (h:o.kind=4) (hb:d.length≤1000) :
 Spec Tryz.prog 87 [.ptr 0 0 0,zpt o] [.blk 193 [.own 1,.own 2,.own 3],.row 261 2 (b.map zfa),.row 263 3 (g.map ze7),.row 202 5 (d.map zmm)] (.tup [])
  [.blk 193 [.own 1,.own 2,.own 4],.row 261 2 (b.map zfa),.row 263 3 (g.map ze7),.dead,.row 202 5 ((d ++ [(⟨2,o.who,⟨0,0⟩,0⟩:Ded)]).map zmm)]:=by
 refine spB Tryz.func87 84 [] Tryz.results87 ?_
 try refine xst ?_
 refine cI (fun h1 => ?_) fun h1 => ?_
 ·omega
 ·try refine xst ?_
  refine cI (fun h2 => ?_) fun h2 => ?_
  ·omega
  ·try refine xst ?_
   refine cI (fun h3 => ?_) fun h3 => ?_
   ·omega
   ·try refine xst ?_
    refine cI (fun h4 => ?_) fun h4 => ?_
    ·try refine xst ?_
     (try(refine⟨by kernel_rfl,?_⟩))
     try refine xst ?_
     refine zbc [0,1,2,3,41] rfl rfl (by decide) ⟨?_,?_,?_,?_,?_,trivial⟩ trivial ?_
     ·simp(etaStruct := .none)only[push_cast,zab,seval]
     ·simp(etaStruct := .none)only[push_cast,zab,seval]
     ·simp(etaStruct := .none)only[push_cast,zab,seval]
     ·simp(etaStruct := .none)only[push_cast,zab,seval]
     ·simp(etaStruct := .none)only[push_cast,zab,seval,List.map_append,zmm]
     ·simp(etaStruct := .none)only[push_cast,zab,seval]
    ·omega
theorem z8n (o:Ord) (b:List Blw) (g:List Gop) (d:List Ded) (h:o.kind=5) (hb:d.length≤1000) :
 Spec Tryz.prog 87 [.ptr 0 0 0,zpt o] [.blk 193 [.own 1,.own 2,.own 3],.row 261 2 (b.map zfa),.row 263 3 (g.map ze7),.row 202 5 (d.map zmm)] (.tup [])
  [.blk 193 [.own 1,.own 2,.own 4],.row 261 2 (b.map zfa),.row 263 3 (g.map ze7),.dead,.row 202 5 ((d ++ [(⟨3,o.by_,⟨0,0⟩,o.what⟩:Ded)]).map zmm)]:=by
 refine spB Tryz.func87 84 [] Tryz.results87 ?_
 try refine xst ?_
 refine cI (fun h1 => ?_) fun h1 => ?_
 ·omega
 ·try refine xst ?_
  refine cI (fun h2 => ?_) fun h2 => ?_
  ·omega
  ·try refine xst ?_
   refine cI (fun h3 => ?_) fun h3 => ?_
   ·omega
   ·try refine xst ?_
    refine cI (fun h4 => ?_) fun h4 => ?_
    ·omega
    ·try refine xst ?_
     refine cI (fun h5 => ?_) fun h5 => ?_
     ·try refine xst ?_
      (try(refine⟨by kernel_rfl,?_⟩))
      try refine xst ?_
      refine zbc [0,1,2,3,49] rfl rfl (by decide) ⟨?_,?_,?_,?_,?_,trivial⟩ trivial ?_
      ·simp(etaStruct := .none)only[push_cast,zab,seval]
      ·simp(etaStruct := .none)only[push_cast,zab,seval]
      ·simp(etaStruct := .none)only[push_cast,zab,seval]
      ·simp(etaStruct := .none)only[push_cast,zab,seval]
      ·simp(etaStruct := .none)only[push_cast,zab,seval,List.map_append,zmm]
      ·simp(etaStruct := .none)only[push_cast,zab,seval]
     ·omega
end Go.Proofs.YtmjbgbmegbkmhaaGreat
