/- Lemmas for the proof of hostDoes.proved. -/
import Derived.Test.YtbapdgmcndgieaaGreatHoD5
namespace Go.Proofs.YtbapdgmcndgieaaGreat
set_option linter.all false
open Go.RowKit
set_option maxRecDepth 100000
set_option maxHeartbeats 1000000
def zif (w:Wld) (i:Nat):Int:=if i=0 then 0 else (w.troops.getD (i-1) default).id
theorem ybq (w:Wld):zif w 0=0:=rfl
theorem ybp (w:Wld) (k:Nat):zif w (k+1)=(w.troops.getD k default).id:=by simp[zif]
def zjt (w:Wld) (k:Nat) (c:Cel):Bool := !zde (fun j => !decide ((w.troops.getD j default).c=c)) k
theorem z94 (w:Wld) (c:Cel):zjt w 0 c=false:=rfl
theorem zx3 (w:Wld) (k:Nat) (c:Cel):zjt w (k+1) c=(zjt w k c||decide ((w.troops.getD k default).c=c)):=by
 unfold zjt;rw[zde];simp[Bool.not_and]
theorem zqr (p q:Nat→Bool):∀n,zde (fun j=>p j&&q j) n=(zde p n&&zde q n)
 | 0=>rfl
 | n+1=>by
  rw[zde,zde,zde,zqr p q n]
  cases zde p n<;>cases zde q n<;>cases p n<;>cases q n<;>rfl
theorem zwy {w:Wld} {k:Nat} (h:zde (zdj w) k=true) (t:Trp):0≤zif w k∧(zif w k<t.id↔1≤t.id∧zde (fun j=>decide ((w.troops.getD j default).id<t.id)) k=true):=by
 have hh:=(zbo _ _).1 h
 cases k with
 | zero=>simp[zif,zde];omega
 | succ k =>
  have hk:=hh k (by omega)
  unfold zdj z7v z4h at hk
  simp only[Bool.and_eq_true,zqr,within_iff]at hk
  have h2:=(zbo _ _).1 hk.2.2.1
  have el:zif w (k+1)=(w.troops.getD k default).id:=by simp[zif]
  rw[el,zbo]
  refine⟨by omega,fun h3=>⟨by omega,fun j hj => ?_⟩,fun h3 => ?_⟩
  ·rw[decide_eq_true_eq]
   rcases Nat.lt_or_ge j k with h4|h4
   ·have:=h2 j h4
    rw[decide_eq_true_eq]at this;omega
   ·rw[show j=k by omega];exact h3
  ·have:=h3.2 k (by omega)
   rwa [decide_eq_true_eq]at this
theorem zq6 {w:Wld} {k:Nat} (h:zde (zdj w) k=true):zdj w k=(zap (w.troops.getD k default).kind 1 2&&zap (w.troops.getD k default).id (zif w k+1) (w.next-1)&&zap (w.troops.getD k default).owner 0 ((w.bases.length:Int)-1)&&zbw w.f (w.troops.getD k default).c&&zap (w.troops.getD k default).life 1 (zbh (w.troops.getD k default).kind).life&&zap (w.troops.getD k default).load 0 (5*(2-(w.troops.getD k default).kind)) && !zjt w k (w.troops.getD k default).c):=by
 obtain⟨_,h2⟩:=zwy h (w.troops.getD k default)
 unfold zdj z7v z4h zjt
 rw[zqr,Bool.not_not]
 have e:zap (w.troops.getD k default).id (zif w k+1) (w.next-1)=(zap (w.troops.getD k default).id 1 (w.next-1)&&zde (fun j=>decide ((w.troops.getD j default).id<(w.troops.getD k default).id)) k):=by
  rw[Bool.eq_iff_iff,Bool.and_eq_true,within_iff,within_iff]
  constructor
  ·rintro⟨a,b⟩
   have:=h2.1 (by omega)
   exact⟨⟨this.1,b⟩,this.2⟩
  ·rintro⟨⟨a,b⟩,c⟩
   have:=h2.2 ⟨a,c⟩
   exact⟨by omega,b⟩
 rw[e]
 cases zap (w.troops.getD k default).kind 1 2<;>cases zap (w.troops.getD k default).id 1 (w.next-1)<;>cases zap (w.troops.getD k default).owner 0 ((w.bases.length:Int)-1)<;>cases zbw w.f (w.troops.getD k default).c<;>cases zap (w.troops.getD k default).life 1 (zbh (w.troops.getD k default).kind).life<;>cases zap (w.troops.getD k default).load 0 (5*(2-(w.troops.getD k default).kind))<;>simp
theorem yfi {k:Int} (h:¬zgk k=0):zap k 1 2=false:=by
 rw[within_f];unfold zgk at h;split at h<;>omega
theorem yfh {k:Int} (h:zgk k=0):zap k 1 2=true:=by
 rw[within_iff];unfold zgk at h;split at h<;>omega
theorem zsi {k:Int} (h:zap k 1 2=true):5*(2-k)=if k=1 then 5 else 0:=by
 rw[within_iff]at h;split<;>omega
def ztq (c:Cel):List Int := [c.x,c.y]
theorem tkeyC_inj {a b:Cel} : ztq a=ztq b↔a=b:=by
 cases a;cases b;simp[ztq]
theorem zz2 (w:Wld) (hl:zdf w) (hf:zbp w.f=0) (hn1:zap w.next 1 1000000=true) (hn2:zap w.now 0 1000000=true):Spec Tryz.prog 133 [zbk w] [] (B (zdo w)) []:=by
 obtain⟨l1,l2,l3,l4,l5⟩:=hl
 have hnx:=within_iff.1 hn1
 refine spB Tryz.func133 96 [.tmp 2] Tryz.results133 ?_
 iterate 2(try simp(etaStruct := .none)only[push_cast,zab,seval,beq_self_eq_true];try refine xsu ?_)
 refine zas (fun x:Nat × List (List Int × Int)=>⟨[(14,I .i64 x.1),(13,I .i64 w.troops.length),(12,.c (.sl 7 (w.troops.map zaw))),(4,.map 1),(3,I .i64 (zif w x.1)),(1,.ptr 0 0 0)],[(0,.blk 28 (zhq w)),(1,.mp true 2 x.2)],2⟩) (fun x:Nat × List (List Int × Int)=>x.1≤w.troops.length∧zde (zdj w) x.1=true∧(∀c:Cel,zdk (ztq c) x.2=if zjt w x.1 c then 1 else 0)) (fun x:Nat × List (List Int × Int)=>w.troops.length-x.1) ((0,[])) (⟨Nat.zero_le _,rfl,fun c=>by rw[z94];rfl⟩) (To.mk [0,1] rfl rfl (by decide) ?_ ?_) ?_
 ·simp(etaStruct := .none)only[push_cast,zab,seval]
 ·simp(etaStruct := .none)only[push_cast,zab,seval,ybq]
 rintro⟨k,es⟩ ⟨hk,hn,hm⟩
 simp only at hk hn hm
 iterate 2(try simp(etaStruct := .none)only[push_cast,zab,seval,beq_self_eq_true];try refine xsu ?_)
 refine zal (fun h1 => ?_) (fun h1 => ?_)
 ·(try replace h1:=xhh h1)
  have hlt:k<w.troops.length:=by omega
  have hla:=(zwy hn (w.troops.getD k default)).1
  have hla2:zif w k≤1000000:=by
   unfold zif
   split
   ·omega
   ·have:=(zbo _ _).1 hn (k-1) (by omega)
    unfold zdj z7v at this
    simp only[Bool.and_eq_true,within_iff]at this
    omega
  iterate 2(try simp(etaStruct := .none)only[push_cast,zab,seval,beq_self_eq_true,zaa _ _ _ hlt,zaw];try refine xsu ?_)
  refine caP (zh4 (w.troops.getD k default).kind) ?_
  iterate 2(try simp(etaStruct := .none)only[push_cast,zab,seval,beq_self_eq_true,zaa _ _ _ hlt,zaw];try refine xsu ?_)
  refine zmz (fun _u:Unit=>⟨[(14,I .i64 k),(13,I .i64 w.troops.length),(12,.c (.sl 7 (w.troops.map zaw))),(9,I .i64 (if (w.troops.getD k default).kind=1 then 5 else 0)),(8,I .i64 (zgk (w.troops.getD k default).kind)),(7,.ptr 3 0 0),(6,.ptr 2 0 0),(4,.map 1),(3,I .i64 (zif w k)),(1,.ptr 0 0 0)],[(0,.blk 28 (zhq w)),(1,.mp true 2 es),(2,.blk 92 (ygo (w.troops.getD k default))),(3,.blk 120 [I .i64 (zbh (w.troops.getD k default).kind).life,I .i64 (zbh (w.troops.getD k default).kind).blow,I .i64 (zbh (w.troops.getD k default).kind).load,I .i64 (zbh (w.troops.getD k default).kind).price])],4⟩) (fun _u:Unit=>Tr) (fun h2 => ?_) (fun h2 => ?_) ?_
  ·(try replace h2:=xhh h2)
   iterate 2(try simp(etaStruct := .none)only[push_cast,zab,seval,beq_self_eq_true,zaa _ _ _ hlt,zaw];try refine xsu ?_)
   refine⟨(),trI,To.mk [0,1,2,3] rfl rfl (by decide) ?_ ?_⟩
   ·(iterate 2((try simp(etaStruct := .none)only[push_cast,zab,seval,beq_self_eq_true,zaa _ _ _ hlt,zaw]);(try(refine xsu ?_;try exact xtI))))
   ·(iterate 2((try simp(etaStruct := .none)only[push_cast,zab,seval,if_pos h2]);(try(refine xsu ?_;try exact xtI))))
  ·(try replace h2:=xhh h2)
   iterate 2(try simp(etaStruct := .none)only[push_cast,zab,seval,beq_self_eq_true,zaa _ _ _ hlt,zaw];try refine xsu ?_)
   refine⟨(),trI,To.mk [0,1,2,3] rfl rfl (by decide) ?_ ?_⟩
   ·(iterate 2((try simp(etaStruct := .none)only[push_cast,zab,seval,beq_self_eq_true,zaa _ _ _ hlt,zaw]);(try(refine xsu ?_;try exact xtI))))
   ·(iterate 2((try simp(etaStruct := .none)only[push_cast,zab,seval,if_neg h2]);(try(refine xsu ?_;try exact xtI))))
  ·rintro _ _
   iterate 2(try simp(etaStruct := .none)only[push_cast,zab,seval,beq_self_eq_true,zaa _ _ _ hlt,zaw];try refine xsu ?_)
   refine gcP (fun hcc=>zb1 (w.troops.getD k default).id (zif w k+1) (w.next-1)) ?_
   iterate 2(try simp(etaStruct := .none)only[push_cast,zab,seval,beq_self_eq_true,zaa _ _ _ hlt,zaw];try refine xsu ?_)
   refine gcP (fun hcc=>zb1 (w.troops.getD k default).owner 0 ((w.bases.length:Int)-1)) ?_
   iterate 2(try simp(etaStruct := .none)only[push_cast,zab,seval,beq_self_eq_true,zaa _ _ _ hlt,zaw];try refine xsu ?_)
   refine gcP (fun hcc=>zlj w.f (w.troops.getD k default).c hf l1) ?_
   iterate 2(try simp(etaStruct := .none)only[push_cast,zab,seval,beq_self_eq_true,zaa _ _ _ hlt,zaw];try refine xsu ?_)
   refine gcP (fun hcc=>zb1 (w.troops.getD k default).life 1 (zbh (w.troops.getD k default).kind).life) ?_
   iterate 2(try simp(etaStruct := .none)only[push_cast,zab,seval,beq_self_eq_true,zaa _ _ _ hlt,zaw];try refine xsu ?_)
   refine gcP (fun hcc=>zb1 (w.troops.getD k default).load 0 (if (w.troops.getD k default).kind=1 then 5 else 0)) ?_
   iterate 2(try simp(etaStruct := .none)only[push_cast,zab,seval,beq_self_eq_true,zaa _ _ _ hlt,zaw];try refine xsu ?_)
   refine cI (fun h3 => ?_) fun h3 => ?_
   ·have e0:zdj w k=false:=by
     rw[zq6 hn]
     rcases h3 with ((((h|h)|h)|h)|h)|h
     ·rw[yfi h];rfl
     ·rw[h];simp
     ·rw[h];simp
     ·rw[h];simp
     ·rw[h];simp
     ·cases hkk:zap (w.troops.getD k default).kind 1 2 with
      | false=>rfl
      | true=>rw[zsi hkk,h];simp
    have e:zdo w=false:=by unfold zdo;rw[zk8 hlt e0];simp
    iterate 2(try simp(etaStruct := .none)only[push_cast,zab,seval,beq_self_eq_true,zaa _ _ _ hlt,zaw];try refine xsu ?_)
    (first|(refine zar rfl (Wk.of ?_);(try simp(etaStruct := .none)only[push_cast,zab,seval]);first|done|(simp[e, *];done)|(simp_all[e];done))|(refine zar rfl ?_;(try simp(etaStruct := .none)only[push_cast,zab,seval]);(try simp[e, *]);(try exact wkc)))
   ·have hkk:=yfh h3.1.1.1.1.1
    have e0:zdj w k = !zjt w k (w.troops.getD k default).c:=by
     rw[zq6 hn,hkk,zsi hkk,h3.1.1.1.1.2,h3.1.1.1.2,h3.1.1.2,h3.1.2,h3.2];rfl
    have hg:zdk [(w.troops.getD k default).c.x,(w.troops.getD k default).c.y] es=if zjt w k (w.troops.getD k default).c=true then 1 else 0:=hm (w.troops.getD k default).c
    have hg2:0≤zdk [(w.troops.getD k default).c.x,(w.troops.getD k default).c.y] es∧zdk [(w.troops.getD k default).c.x,(w.troops.getD k default).c.y] es≤1:=by rw[hg];split<;>omega
    obtain⟨es',hes'⟩:∃es',es'=zhe [(w.troops.getD k default).c.x,(w.troops.getD k default).c.y] (zdk [(w.troops.getD k default).c.x,(w.troops.getD k default).c.y] es+1) es:=⟨_,rfl⟩
    have hp1:=zwr [(w.troops.getD k default).c.x,(w.troops.getD k default).c.y] (zdk [(w.troops.getD k default).c.x,(w.troops.getD k default).c.y] es+1) es
    have hp2:=fun c=>zcq [(w.troops.getD k default).c.x,(w.troops.getD k default).c.y] (ztq c) (zdk [(w.troops.getD k default).c.x,(w.troops.getD k default).c.y] es+1) es
    rw[←hes']at hp1 hp2
    have hmp:=zmc [(w.troops.getD k default).c.x,(w.troops.getD k default).c.y] es
    iterate 2(try simp(etaStruct := .none)only[push_cast,zab,seval,beq_self_eq_true,zaa _ _ _ hlt,zaw,zan,←hes',hp1];try refine xsu ?_)
    (try(refine⟨by kernel_rfl,?_⟩))
    iterate 2(try simp(etaStruct := .none)only[push_cast,zab,seval,beq_self_eq_true,zaa _ _ _ hlt,zaw,zan,←hes',hp1];try refine xsu ?_)
    refine cI (fun h4 => ?_) fun h4 => ?_
    ·have hs:zjt w k (w.troops.getD k default).c=true:=by
      cases hs:zjt w k (w.troops.getD k default).c with
      | true=>rfl
      | false=>rw[hg,hs]at h4;simp at h4
     have e:zdo w=false:=by unfold zdo;rw[zk8 hlt (by rw[e0,hs];rfl)];simp
     iterate 2(try simp(etaStruct := .none)only[push_cast,zab,seval,beq_self_eq_true,zaa _ _ _ hlt,zaw,zan,←hes',hp1];try refine xsu ?_)
     (first|(refine zar rfl (Wk.of ?_);(try simp(etaStruct := .none)only[push_cast,zab,seval]);first|done|(simp[e, *];done)|(simp_all[e];done))|(refine zar rfl ?_;(try simp(etaStruct := .none)only[push_cast,zab,seval]);(try simp[e, *]);(try exact wkc)))
    ·have hs:zjt w k (w.troops.getD k default).c=false:=by
      cases hs:zjt w k (w.troops.getD k default).c with
      | false=>rfl
      | true=>rw[hg,hs]at h4;simp at h4
     iterate 2(try simp(etaStruct := .none)only[push_cast,zab,seval,beq_self_eq_true,zaa _ _ _ hlt,zaw,zan,←hes',hp1];try refine xsu ?_)
     refine⟨(k+1,es'),⟨by simp only;omega,by simp only;rw[zde,hn,e0,hs];rfl,fun c=>by
 simp only
 rw[hp2 c,zx3,hg,hs]
 by_cases hc:(w.troops.getD k default).c=c
 ·rw[if_pos (show ztq c = [(w.troops.getD k default).c.x,(w.troops.getD k default).c.y]from tkeyC_inj.2 hc.symm),decide_eq_true hc];simp
 ·rw [if_neg (show ¬ ztq c = [(w.troops.getD k default).c.x, (w.troops.getD k default).c.y] from fun h => hc (tkeyC_inj.1 h).symm), decide_eq_false hc, hm c, Bool.or_false]⟩, by simp only; omega, To.mk [0, 1] rfl rfl (by decide) ?_ ?_⟩
     ·(iterate 2((try simp(etaStruct := .none)only[push_cast,zab,seval,beq_self_eq_true,zaa _ _ _ hlt,zaw,zan,←hes',hp1]);(try(refine xsu ?_;try exact xtI))))
     ·(try(refine xz1 ybp ?_;try exact xtI))
 ·(try replace h1:=xhh h1)
  obtain rfl:k=w.troops.length:=by omega
  have e:zdo w=true:=by unfold zdo;rw[hn1,hn2,hn];rfl
  iterate 2(try simp(etaStruct := .none)only[push_cast,zab,seval,beq_self_eq_true];try refine xsu ?_)
  refine caP (zb1 w.next 1 1000000) ?_
  iterate 2(try simp(etaStruct := .none)only[push_cast,zab,seval,beq_self_eq_true];try refine xsu ?_)
  refine gcP (fun hcc=>zb1 w.now 0 1000000) ?_
  iterate 2(try simp(etaStruct := .none)only[push_cast,zab,seval,beq_self_eq_true];try refine xsu ?_)
  exact zbe rfl trivial (Wk.of (by rw[e,hn1,hn2];rfl))
theorem ztl (w:Wld) (hl:zdf w) (hf:zbp w.f=0) (hb:(zap w.next 1 1000000&&zap w.now 0 1000000)=false):Spec Tryz.prog 133 [zbk w] [] (B (zdo w)) []:=by
 obtain⟨l1,l2,l3,l4,l5⟩:=hl
 have e:zdo w=false:=by unfold zdo;rw[hb];rfl
 refine spB Tryz.func133 96 [.tmp 2] Tryz.results133 ?_
 iterate 2(try simp(etaStruct := .none)only[push_cast,zab,seval,beq_self_eq_true];try refine xsu ?_)
 refine zas (fun x:Nat × Int × List (List Int × Int)=>⟨[(14,I .i64 x.1),(13,I .i64 w.troops.length),(12,.c (.sl 7 (w.troops.map zaw))),(4,.map 1),(3,I .i64 x.2.1),(1,.ptr 0 0 0)],[(0,.blk 28 (zhq w)),(1,.mp true 2 x.2.2)],2⟩) (fun x:Nat × Int × List (List Int × Int)=>x.1≤w.troops.length) (fun x:Nat × Int × List (List Int × Int)=>w.troops.length-x.1) ((0,0,[])) (Nat.zero_le _) (To.mk [0,1] rfl rfl (by decide) ?_ ?_) ?_
 ·simp(etaStruct := .none)only[push_cast,zab,seval]
 ·simp(etaStruct := .none)only[push_cast,zab,seval]
 rintro⟨k,last,es⟩ hk
 simp only at hk
 iterate 2(try simp(etaStruct := .none)only[push_cast,zab,seval,beq_self_eq_true];try refine xsu ?_)
 refine cI (fun h1 => ?_) fun h1 => ?_
 ·have hlt:k<w.troops.length:=by omega
  iterate 2(try simp(etaStruct := .none)only[push_cast,zab,seval,beq_self_eq_true,zaa _ _ _ hlt,zaw];try refine xsu ?_)
  refine caP (zh4 (w.troops.getD k default).kind) ?_
  iterate 2(try simp(etaStruct := .none)only[push_cast,zab,seval,beq_self_eq_true,zaa _ _ _ hlt,zaw];try refine xsu ?_)
  refine zmz (fun m:Int=>⟨[(14,I .i64 k),(13,I .i64 w.troops.length),(12,.c (.sl 7 (w.troops.map zaw))),(9,I .i64 m),(8,I .i64 (zgk (w.troops.getD k default).kind)),(7,.ptr 3 0 0),(6,.ptr 2 0 0),(4,.map 1),(3,I .i64 last),(1,.ptr 0 0 0)],[(0,.blk 28 (zhq w)),(1,.mp true 2 es),(2,.blk 92 (ygo (w.troops.getD k default))),(3,.blk 120 [I .i64 (zbh (w.troops.getD k default).kind).life,I .i64 (zbh (w.troops.getD k default).kind).blow,I .i64 (zbh (w.troops.getD k default).kind).load,I .i64 (zbh (w.troops.getD k default).kind).price])],4⟩) (fun m:Int=>Tr) (fun h2 => ?_) (fun h2 => ?_) ?_
  ·(try replace h2:=xhh h2)
   iterate 2(try simp(etaStruct := .none)only[push_cast,zab,seval,beq_self_eq_true,zaa _ _ _ hlt,zaw];try refine xsu ?_)
   refine⟨5,trI,To.mk [0,1,2,3] rfl rfl (by decide) ?_ ?_⟩
   ·(iterate 2((try simp(etaStruct := .none)only[push_cast,zab,seval,beq_self_eq_true,zaa _ _ _ hlt,zaw]);(try(refine xsu ?_;try exact xtI))))
   ·(iterate 2((try simp(etaStruct := .none)only[push_cast,zab,seval,beq_self_eq_true,zaa _ _ _ hlt,zaw]);(try(refine xsu ?_;try exact xtI))))
  ·(try replace h2:=xhh h2)
   iterate 2(try simp(etaStruct := .none)only[push_cast,zab,seval,beq_self_eq_true,zaa _ _ _ hlt,zaw];try refine xsu ?_)
   refine⟨0,trI,To.mk [0,1,2,3] rfl rfl (by decide) ?_ ?_⟩
   ·(iterate 2((try simp(etaStruct := .none)only[push_cast,zab,seval,beq_self_eq_true,zaa _ _ _ hlt,zaw]);(try(refine xsu ?_;try exact xtI))))
   ·(iterate 2((try simp(etaStruct := .none)only[push_cast,zab,seval,beq_self_eq_true,zaa _ _ _ hlt,zaw]);(try(refine xsu ?_;try exact xtI))))
  ·rintro m _
   iterate 2(try simp(etaStruct := .none)only[push_cast,zab,seval,beq_self_eq_true,zaa _ _ _ hlt,zaw];try refine xsu ?_)
   refine gcP (fun hcc=>zb1 (w.troops.getD k default).id _ _) ?_
   iterate 2(try simp(etaStruct := .none)only[push_cast,zab,seval,beq_self_eq_true,zaa _ _ _ hlt,zaw];try refine xsu ?_)
   refine gcP (fun hcc=>zb1 (w.troops.getD k default).owner 0 ((w.bases.length:Int)-1)) ?_
   iterate 2(try simp(etaStruct := .none)only[push_cast,zab,seval,beq_self_eq_true,zaa _ _ _ hlt,zaw];try refine xsu ?_)
   refine gcP (fun hcc=>zlj w.f (w.troops.getD k default).c hf l1) ?_
   iterate 2(try simp(etaStruct := .none)only[push_cast,zab,seval,beq_self_eq_true,zaa _ _ _ hlt,zaw];try refine xsu ?_)
   refine gcP (fun hcc=>zb1 (w.troops.getD k default).life 1 (zbh (w.troops.getD k default).kind).life) ?_
   iterate 2(try simp(etaStruct := .none)only[push_cast,zab,seval,beq_self_eq_true,zaa _ _ _ hlt,zaw];try refine xsu ?_)
   refine gcP (fun hcc=>zb1 (w.troops.getD k default).load 0 m) ?_
   iterate 2(try simp(etaStruct := .none)only[push_cast,zab,seval,beq_self_eq_true,zaa _ _ _ hlt,zaw];try refine xsu ?_)
   refine cI (fun h3 => ?_) fun h3 => ?_
   ·iterate 2(try simp(etaStruct := .none)only[push_cast,zab,seval,beq_self_eq_true,zaa _ _ _ hlt,zaw];try refine xsu ?_)
    (first|(refine zar rfl (Wk.of ?_);(try simp(etaStruct := .none)only[push_cast,zab,seval]);first|done|(simp[e, *];done)|(simp_all[e];done))|(refine zar rfl ?_;(try simp(etaStruct := .none)only[push_cast,zab,seval]);(try simp[e, *]);(try exact wkc)))
   ·have hmp:=zmc [(w.troops.getD k default).c.x,(w.troops.getD k default).c.y] es
    iterate 2(try simp(etaStruct := .none)only[push_cast,zab,seval,beq_self_eq_true,zaa _ _ _ hlt,zaw,zan];try refine xsu ?_)
    (try(refine⟨by kernel_rfl,?_⟩))
    iterate 2(try simp(etaStruct := .none)only[push_cast,zab,seval,beq_self_eq_true,zaa _ _ _ hlt,zaw,zan];try refine xsu ?_)
    refine cI (fun h4 => ?_) fun h4 => ?_
    ·iterate 2(try simp(etaStruct := .none)only[push_cast,zab,seval,beq_self_eq_true,zaa _ _ _ hlt,zaw,zan];try refine xsu ?_)
     (first|(refine zar rfl (Wk.of ?_);(try simp(etaStruct := .none)only[push_cast,zab,seval]);first|done|(simp[e, *];done)|(simp_all[e];done))|(refine zar rfl ?_;(try simp(etaStruct := .none)only[push_cast,zab,seval]);(try simp[e, *]);(try exact wkc)))
    ·iterate 2(try simp(etaStruct := .none)only[push_cast,zab,seval,beq_self_eq_true,zaa _ _ _ hlt,zaw,zan];try refine xsu ?_)
     refine⟨(k+1,(w.troops.getD k default).id,zhe [(w.troops.getD k default).c.x,(w.troops.getD k default).c.y] (IntKind.i64.wrap (zdk [(w.troops.getD k default).c.x,(w.troops.getD k default).c.y] es+1)) es),by simp only;omega,by simp only;omega,To.mk [0,1] rfl rfl (by decide) ?_ ?_⟩
     ·(iterate 2((try simp(etaStruct := .none)only[push_cast,zab,seval,beq_self_eq_true,zaa _ _ _ hlt,zaw,zan]);(try(refine xsu ?_;try exact xtI))))
     ·(iterate 2((try simp(etaStruct := .none)only[push_cast,zab,seval,beq_self_eq_true,zaa _ _ _ hlt,zaw,zan]);(try(refine xsu ?_;try exact xtI))))
 ·iterate 2(try simp(etaStruct := .none)only[push_cast,zab,seval,beq_self_eq_true];try refine xsu ?_)
  refine caP (zb1 w.next 1 1000000) ?_
  iterate 2(try simp(etaStruct := .none)only[push_cast,zab,seval,beq_self_eq_true];try refine xsu ?_)
  refine gcP (fun hcc=>zb1 w.now 0 1000000) ?_
  iterate 2(try simp(etaStruct := .none)only[push_cast,zab,seval,beq_self_eq_true];try refine xsu ?_)
  exact zbe rfl trivial (Wk.of (by rw[e,hb];rfl))
theorem ztm (w:Wld) (hl:zdf w) (hf:zbp w.f=0):Spec Tryz.prog 133 [zbk w] [] (B (zdo w)) []:=by
 cases hb:(zap w.next 1 1000000&&zap w.now 0 1000000)with
 | false=>exact ztl w hl hf hb
 | true=>rw[Bool.and_eq_true]at hb;exact zz2 w hl hf hb.1 hb.2
theorem ze9 (w:Wld) (hl:zdf w):Spec Tryz.prog 96 [zbk w] [] (I .i64 (zah w)) []:=by
 refine spB Tryz.func96 33 [.tmp 2] Tryz.results96 ?_
 try refine xst ?_
 refine caP (zxe w.f hl.1) ?_
 try refine xst ?_
 refine cI (fun h1 => ?_) fun h1 => ?_
 ·have e:zah w=zbp w.f:=by unfold zah;rw[if_pos (by simpa using h1)]
  try refine xst ?_
  (first|(refine zar rfl (Wk.of ?_);(try simp(etaStruct := .none)only[push_cast,zab,seval]);first|done|(simp[e, *];done)|(simp_all[e];done))|(refine zar rfl ?_;(try simp(etaStruct := .none)only[push_cast,zab,seval]);(try simp[e, *]);(try exact wkc)))
 ·have hf:zbp w.f=0:=by simpa using h1
  try refine xst ?_
  refine cI (fun h2 => ?_) fun h2 => ?_
  ·have e:zah w=2:=by unfold zah;rw[if_neg (by simp[hf]),if_pos (by omega)]
   try refine xst ?_
   (first|(refine zar rfl (Wk.of ?_);(try simp(etaStruct := .none)only[push_cast,zab,seval]);first|done|(simp[e, *];done)|(simp_all[e];done))|(refine zar rfl ?_;(try simp(etaStruct := .none)only[push_cast,zab,seval]);(try simp[e, *]);(try exact wkc)))
  ·have hb:¬(8<w.bases.length∨100<w.troops.length):=by omega
   try refine xst ?_
   refine caP (zx0 w hl hf) ?_
   try refine xst ?_
   refine gcP (fun hcc=>z4j w hl) ?_
   try refine xst ?_
   refine gcP (fun hcc=>ztm w hl hf) ?_
   try refine xst ?_
   refine cI (fun h3 => ?_) fun h3 => ?_
   ·have e:zah w=4:=by
     unfold zah;rw[if_neg (by simp[hf]),if_neg hb,if_neg]
     rw[←ptm]
     rcases h3 with (h|h)|h<;>rw[h]<;>simp
    try refine xst ?_
    (first|(refine zar rfl (Wk.of ?_);(try simp(etaStruct := .none)only[push_cast,zab,seval]);first|done|(simp[e, *];done)|(simp_all[e];done))|(refine zar rfl ?_;(try simp(etaStruct := .none)only[push_cast,zab,seval]);(try simp[e, *]);(try exact wkc)))
   ·have e:zah w=0:=by
     unfold zah;rw[if_neg (by simp[hf]),if_neg hb,if_pos]
     rw[←ptm,h3.1.1,h3.1.2,h3.2];rfl
    try refine xst ?_
    (first|(refine zar rfl (Wk.of ?_);(try simp(etaStruct := .none)only[push_cast,zab,seval]);first|done|(simp[e, *];done)|(simp_all[e];done))|(refine zar rfl ?_;(try simp(etaStruct := .none)only[push_cast,zab,seval]);(try simp[e, *]);(try exact wkc)))
theorem zcb {w:Wld} (h:zah w=0):zbp w.f=0∧w.bases.length≤8∧w.troops.length≤100∧zge w=true∧ze7 w=true:=by
 unfold zah at h
 split at h
 ·rename_i h1;exact absurd h h1
 ·rename_i h1
  split at h
  ·simp at h
  ·rename_i h2
   split at h
   ·rename_i h3
    rw[Bool.and_eq_true]at h3
    exact⟨Decidable.not_not.1 h1,by omega,by omega,h3.1,h3.2⟩
   ·simp at h
theorem zla {w:Wld} (h:zge w=true):w.stocks.length=w.bases.length∧w.mines.length=w.f.p.length∧(1≤w.next∧w.next≤1000000)∧0≤w.now∧w.now≤1000000:=by
 unfold zge at h
 simp only[Bool.and_eq_true,decide_eq_true_eq,within_iff]at h
 exact⟨h.1.1.1,h.1.1.2,h.1.2,h.2⟩
structure TrpOk (w : Wld) (t : Trp) : Prop where
 kind:t.kind=1∨t.kind=2
 id:1≤t.id∧t.id≤w.next-1
 owner:0≤t.owner∧t.owner≤(w.bases.length:Int)-1
 at_:zbw w.f t.c=true
 x:0≤t.c.x∧t.c.x<w.f.w
 y:0≤t.c.y∧t.c.y<w.f.h
 life:1≤t.life∧t.life≤(zbh t.kind).life
 load:0≤t.load∧t.load≤5*(2-t.kind)
theorem ground_iff {f:Fld} {c:Cel} : zbw f c=true↔inF f c=true∧zag f c≠1:=by unfold zbw;simp
theorem ze8 {w:Wld} (h:zah w=0) {k:Nat} (hk:k<w.troops.length):TrpOk w (w.troops.getD k default)∧z4h w k=true:=by
 obtain⟨_,_,_,_,h5⟩:=zcb h
 unfold ze7 at h5
 simp only[Bool.and_eq_true]at h5
 have:=(zbo _ _).1 h5.2 k hk
 unfold zdj z7v at this
 simp only[Bool.and_eq_true,within_iff]at this
 obtain⟨a,⟨⟨⟨⟨b,c⟩,d⟩,e⟩,f⟩,g⟩:=this
 have hi:=inF_iff.1 (ground_iff.1 d).1
 exact⟨⟨by omega,b,c,d,hi.1,hi.2,e,f⟩,g⟩
theorem zfk {w:Wld} (h:zah w=0) {t:Trp} (ht:t∈w.troops):TrpOk w t:=by
 obtain⟨i,hi,rfl⟩:=List.getElem_of_mem ht
 have:=(ze8 h hi).1
 rwa [zad _ _ hi]at this
theorem zhx (F:FuncId) (a b:List AV) (l:List Trp) (p:Trp→Bool) (hl:l.length≤9223372036854775807) (hp:∀n∈l,Spec Tryz.prog F (a ++ [z38 n]++b) [] (B (p n)) []) (ha:∀h,cvL [] h a=a) (hb:∀h,cvL [] h b=b) :
 Spec Tryz.prog 159 [.c (.sl 7 (l.map zaw)),.clo (.func F) a b] [] (I .i64 (ze4 p l)) []:=by
 refine spB Tryz.func159 19 [.tmp 4] Tryz.results159 ?_
 simp(etaStruct := .none)only[push_cast,zab,seval]
 refine zas (fun k:Nat=>⟨[(8,I .i64 k),(7,I .i64 l.length),(0,.c (.sl 7 (l.map zaw))),(1,.clo (.func F) a b)],[],0⟩) (fun k=>k≤l.length∧∀j (hj:j<l.length),j<k→p l[j]=false) (fun k=>l.length-k) 0 ⟨Nat.zero_le _,fun j _ h=>by omega⟩ (To.mk [] rfl rfl List.nodup_nil trivial ?_) ?_
 ·simp(etaStruct := .none)only[push_cast,zab,seval,ha,hb]
 ·rintro k ⟨hk,hn⟩
  simp(etaStruct := .none)only[push_cast,zab,seval]
  refine zal (fun h => ?_) (fun h => ?_)
  ·have hlt:k<l.length:=by simpa using h
   simp(etaStruct := .none)only[push_cast,zab,seval,zbn _ _ _ hlt,zaw]
   repeat with_reducible refine obA ?_
   refine zct (hp _ (List.getElem_mem hlt)) (by simp only[zdr,ha,hb,cvL,cv];exact WkL.refl _) ?_
   simp(etaStruct := .none)only[push_cast,zab,seval]
   refine zal (fun h => ?_) (fun h => ?_)
   ·simp(etaStruct := .none)only[push_cast,zab,seval]
    exact zbe rfl trivial (Wk.of (by rw[zdc p l k hlt h hn];rfl))
   ·simp(etaStruct := .none)only[push_cast,zab,seval]
    refine⟨k+1,⟨by omega,fun j hj hjk => ?_⟩,by omega,To.mk [] rfl rfl List.nodup_nil trivial ?_⟩
    ·by_cases e:j=k
     ·subst e;exact h
     ·exact hn j hj (by omega)
    ·simp(etaStruct := .none)only[push_cast,zab,seval,ha,hb]
     simp(disch:=omega)only[zaq,zbl,tdv,tmd]
  ·have hge:k=l.length:=by simp at h;omega
   subst hge
   simp(etaStruct := .none)only[push_cast,zab,seval]
   exact zbe rfl trivial (Wk.of (by rw[zcs p l (fun j hj=>hn j hj hj)];rfl))
theorem ybv {α : Type} (p : α → Bool) (l:List α) : -1≤ze4 p l∧ze4 p l<l.length:=by
 unfold ze4
 cases h:l.findIdx? p with
 | none=>simp;omega
 | some i =>
  obtain⟨hi,_⟩:=List.findIdx?_eq_some_iff_getElem.1 h
  simp only;omega
theorem zus {α : Type} [Inhabited α] (p : α → Bool) (l:List α) (k:Nat) (h:k<l.length):(l.take (k+1)).filter p=if p (l.getD k default)then (l.take k).filter p ++ [l.getD k default]else (l.take k).filter p:=by
 rw[zav l k h,List.filter_append,List.filter_cons,List.filter_nil]
 split<;>simp
structure Blw where
 by_:Int
 at_:Int
 deriving DecidableEq, Inhabited
def zea (b:Blw):List PV := [pI b.by_,pI b.at_]
theorem zs3 (b:Blw):zea b = [pI b.by_,pI b.at_]:=rfl
structure Gop where
 id:Int
 to:Cel
 deriving DecidableEq, Inhabited
def zc8 (g:Gop):List PV := [pI g.id,pI g.to.x,pI g.to.y]
theorem zob (g:Gop):zc8 g = [pI g.id,pI g.to.x,pI g.to.y]:=rfl
structure Ded where
 kind:Int
 who:Int
 c:Cel
 what:Int
 deriving DecidableEq, Inhabited
def zjp (d:Ded):List PV := [pI d.kind,pI d.who,pI d.c.x,pI d.c.y,pI d.what]
theorem zxh (d:Ded):zjp d = [pI d.kind,pI d.who,pI d.c.x,pI d.c.y,pI d.what]:=rfl
def zbx (w:Wld) (i:Int):Option Trp:=w.troops.find? fun t=>decide (t.id=i)
def zqx:Trp:=⟨0,0,0,⟨0,0⟩,0,0⟩
theorem zjh {α : Type} [Inhabited α] (p : α → Bool) (l:List α) (k:Nat) (h:k<l.length) (hp:p (l.getD k default)=true) (hn:∀j,j<k→p (l.getD j default)=false):l.find? p=some (l.getD k default):=by
 induction l generalizing k with
 | nil=>simp at h
 | cons a r ih =>
  cases k with
  | zero=>simp only[List.getD_cons_zero]at hp ⊢;rw[List.find?_cons,hp]
  | succ k =>
   have h0:=hn 0 (by omega)
   simp only[List.getD_cons_zero]at h0
   rw[List.find?_cons,h0]
   simp only[List.getD_cons_succ]at hp ⊢
   exact ih k (by simpa using h) hp (fun j hj=>by have:=hn (j+1) (by omega);simpa using this)
theorem zmx {α : Type} [Inhabited α] (p : α → Bool) (l:List α) (hn:∀j,j<l.length→p (l.getD j default)=false):l.find? p=none:=by
 rw[List.find?_eq_none]
 intro x hx
 obtain⟨i,hi,rfl⟩:=List.getElem_of_mem hx
 have:=hn i hi
 rw[zad _ _ hi]at this
 simp[this]
theorem zlh (w:Wld) (i:Int) (hl:zdf w):Spec Tryz.prog 148 [zbk w,I .i64 i] [] (.tup [z38 ((zbx w i).getD zqx),B (zbx w i).isSome]) []:=by
 obtain⟨l1,l2,l3,l4,l5⟩:=hl
 refine spB Tryz.func148 22 [.cell 4 92,.tmp 5] Tryz.results148 ?_
 try refine xst ?_
 refine zas (fun k:Nat=>⟨[(11,I .i64 k),(10,I .i64 w.troops.length),(9,.c (.sl 7 (w.troops.map zaw))),(4,.ptr 0 0 0),(1,I .i64 i)],[(0,.blk 92 [I .i64 0,I .i64 0,I .i64 0,I .i64 0,I .i64 0,I .i64 0,I .i64 0])],1⟩) (fun k:Nat=>k≤w.troops.length∧∀j,j<k→decide ((w.troops.getD j default).id=i)=false) (fun k:Nat=>w.troops.length-k) (0) (⟨Nat.zero_le _,fun j h=>by omega⟩) (To.mk [1] rfl rfl (by decide) ?_ ?_) ?_
 ·simp(etaStruct := .none)only[push_cast,zab,seval]
 ·simp(etaStruct := .none)only[push_cast,zab,seval]
 rintro k ⟨hk,hn⟩
 try refine xst ?_
 refine zal (fun h1 => ?_) (fun h1 => ?_)
 ·(try replace h1:=xhh h1)
  have hlt:k<w.troops.length:=by omega
  try refine xz2 (gd hlt) zae ?_
  refine cI (fun h2 => ?_) fun h2 => ?_
  ·have e:zbx w i=some (w.troops.getD k default):=zjh _ _ k hlt (by simpa using h2) (fun j hj=>by simpa using hn j hj)
   try refine xz2 (gd hlt) zae ?_
   refine zbe rfl (by repeat' (first|exact trivial|exact rfl|refine⟨?_,?_⟩)) (Wk.of ?_)
   rw[e];simp(etaStruct := .none)only[push_cast,zab,seval]
   try rfl
  ·try refine xz2 (gd hlt) zae ?_
   refine⟨k+1,⟨by omega,fun j hj=>by
 rcases Nat.lt_or_ge j k with h|h
 ·simpa using hn j h
 ·rw[show j=k by omega];simpa using h2⟩,by omega,To.mk [0] rfl rfl (by decide) ?_ ?_⟩
   ·(try(refine xz2 (gd hlt) zae ?_;try exact xtI))
   ·(try(refine xz2 (gd hlt) zae ?_;try exact xtI))
 ·(try replace h1:=xhh h1)
  have e:zbx w i=none:=zmx _ _ (fun j hj=>by simpa using hn j (by omega))
  try refine xst ?_
  refine zbe rfl (by repeat' (first|exact trivial|exact rfl|refine⟨?_,?_⟩)) (Wk.of ?_)
  rw[e];simp(etaStruct := .none)only[push_cast,zab,seval]
  try rfl
def zb9 (o:Ord) (w:Wld):Bool:=if o.kind=5 then decide (o.by_<w.bases.length)else match zbx w o.who with|some t=>decide (t.owner=o.by_)|none=>false
theorem zu7 (o:Ord) (w:Wld) (hl:zdf w):Spec Tryz.prog 121 [zic o,zbk w] [] (B (zb9 o w)) []:=by
 refine spB Tryz.func121 31 [.tmp 4] Tryz.results121 ?_
 try refine xst ?_
 refine cI (fun h1 => ?_) fun h1 => ?_
 ·have e:zb9 o w=decide (o.by_<w.bases.length):=by unfold zb9;rw[if_pos h1]
  try refine xst ?_
  (first|(refine zar rfl (Wk.of ?_);(try simp(etaStruct := .none)only[push_cast,zab,seval]);first|done|(simp[e, *];done)|(simp_all[e];done))|(refine zar rfl ?_;(try simp(etaStruct := .none)only[push_cast,zab,seval]);(try simp[e, *]);(try exact wkc)))
 ·have e:zb9 o w=((zbx w o.who).isSome&&decide (((zbx w o.who).getD zqx).owner=o.by_)):=by
   unfold zb9;rw[if_neg (by simpa using h1)];cases zbx w o.who<;>rfl
  try refine xst ?_
  refine caP (zlh w o.who hl) ?_
  try refine xst ?_
  (first|(refine zar rfl (Wk.of ?_);(try simp(etaStruct := .none)only[push_cast,zab,seval]);first|done|(simp[e, *];done)|(simp_all[e];done))|(refine zar rfl ?_;(try simp(etaStruct := .none)only[push_cast,zab,seval]);(try simp[e, *]);(try exact wkc)))
def zxw (o:Ord):List Blw:=if o.kind=1 then [⟨o.who,o.what⟩]else []
def zxv (o:Ord):List Gop:=if o.kind=2 then [⟨o.who,o.c⟩]else []
def zuw (o:Ord):Ded:=⟨o.kind-2,if o.kind=5 then o.by_ else o.who,o.c,o.what⟩
def zq1 (o:Ord):List Ded:=if 2<o.kind then [zuw o]else []
def zbu (l:List Ord) (w:Wld):List Blw:=(l.filter fun o=>zb9 o w).flatMap zxw
def zcw (l:List Ord) (w:Wld):List Gop:=(l.filter fun o=>zb9 o w).flatMap zxv
def zbq (l:List Ord) (w:Wld):List Ded:=(l.filter fun o=>zb9 o w).flatMap zq1
theorem zft {α : Type} (p:Ord→Bool) (f:Ord→List α) (l:List Ord) (k:Nat) (h:k<l.length):((l.take (k+1)).filter p).flatMap f=((l.take k).filter p).flatMap f++(if p (l.getD k default)then f (l.getD k default)else []):=by
 rw[zus p l k h]
 split<;>simp
theorem zdv {α : Type} (p:Ord→Bool) (f:Ord→List α) (hf:∀o,(f o).length≤1):∀l:List Ord,((l.filter p).flatMap f).length≤l.length
 | []=>by simp
 | a::r=>by
  have:=zdv p f hf r
  have h1:=hf a
  rw[List.filter_cons]
  split
  ·rw[List.flatMap_cons,List.length_append,List.length_cons];omega
  ·rw[List.length_cons];omega
theorem zqw (o:Ord):(zxw o).length≤1:=by unfold zxw;split<;>simp
theorem zqt (o:Ord):(zxv o).length≤1:=by unfold zxv;split<;>simp
theorem zqu (o:Ord):(zq1 o).length≤1:=by unfold zq1;split<;>simp
theorem yct (l:List Ord) (w:Wld) (hl:zdf w) (hll:l.length≤100):Spec Tryz.prog 86 [.c (.sl 6 (l.map zch)),zbk w] [] (.c (.sl 2 ((zbu l w).map zea))) []:=by
 refine spB Tryz.func86 32 [.tmp 4] Tryz.results86 ?_
 try refine xst ?_
 refine zas (fun k:Nat=>⟨[(10,I .i64 k),(9,I .i64 l.length),(8,.c (.sl 6 (l.map zch))),(5,.own 1),(3,.ptr 0 0 0)],[(0,.blk 28 (zhq w)),(1,.row 187 2 ((zbu (l.take k) w).map zea))],2⟩) (fun k:Nat=>k≤l.length) (fun k:Nat=>l.length-k) (0) (Nat.zero_le _) ((To.nil 5 187 2 rfl).trans (To.mk [0,1] rfl rfl (by decide) ?_ ?_)) ?_
 ·simp(etaStruct := .none)only[push_cast,zab,seval,zbu,List.filter_nil,List.flatMap_nil]
 ·simp(etaStruct := .none)only[push_cast,zab,seval]
 rintro k hk
 try refine xst ?_
 refine cI (fun h1 => ?_) fun h1 => ?_
 ·have hlt:k<l.length:=by omega
  have st:=zft (fun o=>zb9 o w) zxw l k hlt
  have hfl:=zdv (fun o=>zb9 o w) zxw zqw (l.take k)
  rw[List.length_take]at hfl
  change zbu (l.take (k+1)) w=zbu (l.take k) w++_ at st
  change (zbu (l.take k) w).length≤_ at hfl
  try refine xz2 (gd hlt) za0 ?_
  refine gcP (fun hcc=>zu7 (l.getD k default) w hl) ?_
  try refine xz2 (gd hlt) za0 ?_
  refine cI (fun h2 => ?_) fun h2 => ?_
  ·have e:zbu (l.take (k+1)) w=zbu (l.take k) w ++ [⟨(l.getD k default).who,(l.getD k default).what⟩]:=by rw[st,if_pos h2.2];unfold zxw;rw[if_pos h2.1]
   try refine xz2 (gd hlt) za0 ?_
   refine⟨k+1,by omega,by omega,To.mk [0,4] rfl rfl (by decide) ?_ ?_⟩
   ·(iterate 2((try simp(etaStruct := .none)only[push_cast,zab,seval,e,List.map_append,zea]);(try(refine xsu ?_;try exact xtI))))
   ·(try(refine xz2 (gd hlt) za0 ?_;try exact xtI))
  ·have e:zbu (l.take (k+1)) w=zbu (l.take k) w:=by
    rw[st]
    rcases h2 with h|h
    ·unfold zxw;rw[if_neg h];simp
    ·rw[h];simp
   try refine xz2 (gd hlt) za0 ?_
   refine⟨k+1,by omega,by omega,To.mk [0,1] rfl rfl (by decide) ?_ ?_⟩
   ·(try(refine xz1 e ?_;try exact xtI))
   ·(try(refine xz2 (gd hlt) za0 ?_;try exact xtI))
 ·obtain rfl:k=l.length:=by omega
  iterate 2(try simp(etaStruct := .none)only[push_cast,zab,seval,List.take_length];try refine xsu ?_)
  exact xrz rfl
theorem yfu (l:List Ord) (w:Wld) (hl:zdf w) (hll:l.length≤100):Spec Tryz.prog 87 [.c (.sl 6 (l.map zch)),zbk w] [] (.c (.sl 3 ((zcw l w).map zc8))) []:=by
 refine spB Tryz.func87 32 [.tmp 4] Tryz.results87 ?_
 try refine xst ?_
 refine zas (fun k:Nat=>⟨[(10,I .i64 k),(9,I .i64 l.length),(8,.c (.sl 6 (l.map zch))),(5,.own 1),(3,.ptr 0 0 0)],[(0,.blk 28 (zhq w)),(1,.row 189 3 ((zcw (l.take k) w).map zc8))],2⟩) (fun k:Nat=>k≤l.length) (fun k:Nat=>l.length-k) (0) (Nat.zero_le _) ((To.nil 5 189 3 rfl).trans (To.mk [0,1] rfl rfl (by decide) ?_ ?_)) ?_
 ·simp(etaStruct := .none)only[push_cast,zab,seval,zcw,List.filter_nil,List.flatMap_nil]
 ·simp(etaStruct := .none)only[push_cast,zab,seval]
 rintro k hk
 try refine xst ?_
 refine cI (fun h1 => ?_) fun h1 => ?_
 ·have hlt:k<l.length:=by omega
  have st:=zft (fun o=>zb9 o w) zxv l k hlt
  have hfl:=zdv (fun o=>zb9 o w) zxv zqt (l.take k)
  rw[List.length_take]at hfl
  change zcw (l.take (k+1)) w=zcw (l.take k) w++_ at st
  change (zcw (l.take k) w).length≤_ at hfl
  try refine xz2 (gd hlt) za0 ?_
  refine gcP (fun hcc=>zu7 (l.getD k default) w hl) ?_
  try refine xz2 (gd hlt) za0 ?_
  refine cI (fun h2 => ?_) fun h2 => ?_
  ·have e:zcw (l.take (k+1)) w=zcw (l.take k) w ++ [⟨(l.getD k default).who,(l.getD k default).c⟩]:=by rw[st,if_pos h2.2];unfold zxv;rw[if_pos h2.1]
   try refine xz2 (gd hlt) za0 ?_
   refine⟨k+1,by omega,by omega,To.mk [0,4] rfl rfl (by decide) ?_ ?_⟩
   ·(iterate 2((try simp(etaStruct := .none)only[push_cast,zab,seval,e,List.map_append,zc8]);(try(refine xsu ?_;try exact xtI))))
   ·(try(refine xz2 (gd hlt) za0 ?_;try exact xtI))
  ·have e:zcw (l.take (k+1)) w=zcw (l.take k) w:=by
    rw[st]
    rcases h2 with h|h
    ·unfold zxv;rw[if_neg h];simp
    ·rw[h];simp
   try refine xz2 (gd hlt) za0 ?_
   refine⟨k+1,by omega,by omega,To.mk [0,1] rfl rfl (by decide) ?_ ?_⟩
   ·(try(refine xz1 e ?_;try exact xtI))
   ·(try(refine xz2 (gd hlt) za0 ?_;try exact xtI))
 ·obtain rfl:k=l.length:=by omega
  iterate 2(try simp(etaStruct := .none)only[push_cast,zab,seval,List.take_length];try refine xsu ?_)
  exact xrz rfl
theorem ycn (l:List Ord) (w:Wld) (hl:zdf w) (hll:l.length≤100) (hk5:∀o∈l,zc7 o=0):Spec Tryz.prog 88 [.c (.sl 6 (l.map zch)),zbk w] [] (.c (.sl 5 ((zbq l w).map zjp))) []:=by
 refine spB Tryz.func88 45 [.tmp 4] Tryz.results88 ?_
 try refine xst ?_
 refine zas (fun k:Nat=>⟨[(11,I .i64 k),(10,I .i64 l.length),(9,.c (.sl 6 (l.map zch))),(5,.own 1),(3,.ptr 0 0 0)],[(0,.blk 28 (zhq w)),(1,.row 191 5 ((zbq (l.take k) w).map zjp))],2⟩) (fun k:Nat=>k≤l.length) (fun k:Nat=>l.length-k) (0) (Nat.zero_le _) ((To.nil 5 191 5 rfl).trans (To.mk [0,1] rfl rfl (by decide) ?_ ?_)) ?_
 ·simp(etaStruct := .none)only[push_cast,zab,seval,zbq,List.filter_nil,List.flatMap_nil]
 ·simp(etaStruct := .none)only[push_cast,zab,seval]
 rintro k hk
 try refine xst ?_
 refine cI (fun h1 => ?_) fun h1 => ?_
 ·have hlt:k<l.length:=by omega
  have st:=zft (fun o=>zb9 o w) zq1 l k hlt
  have hfl:=zdv (fun o=>zb9 o w) zq1 zqu (l.take k)
  rw[List.length_take]at hfl
  change zbq (l.take (k+1)) w=zbq (l.take k) w++_ at st
  change (zbq (l.take k) w).length≤_ at hfl
  have hor:=zec (hk5 _ (za9 l k hlt))
  try refine xz2 (gd hlt) za0 ?_
  refine gcP (fun hcc=>zu7 (l.getD k default) w hl) ?_
  try refine xz2 (gd hlt) za0 ?_
  refine cI (fun h2 => ?_) fun h2 => ?_
  ·have e:zbq (l.take (k+1)) w=zbq (l.take k) w ++ [zuw (l.getD k default)]:=by rw[st,if_pos h2.2];unfold zq1;rw[if_pos h2.1]
   try refine xz2 (gd hlt) za0 ?_
   refine cI (fun h3 => ?_) fun h3 => ?_
   ·try refine xz2 (gd hlt) za0 ?_
    refine⟨k+1,by omega,by omega,To.mk [0,5] rfl rfl (by decide) ?_ ?_⟩
    ·(iterate 2((try simp(etaStruct := .none)only[push_cast,zab,seval,e,List.map_append,zjp,zuw,if_pos h3]);(try(refine xsu ?_;try exact xtI))))
    ·(try(refine xz2 (gd hlt) za0 ?_;try exact xtI))
   ·try refine xz2 (gd hlt) za0 ?_
    refine⟨k+1,by omega,by omega,To.mk [0,5] rfl rfl (by decide) ?_ ?_⟩
    ·(iterate 2((try simp(etaStruct := .none)only[push_cast,zab,seval,e,List.map_append,zjp,zuw,if_neg h3]);(try(refine xsu ?_;try exact xtI))))
    ·(try(refine xz2 (gd hlt) za0 ?_;try exact xtI))
  ·have e:zbq (l.take (k+1)) w=zbq (l.take k) w:=by
    rw[st]
    rcases h2 with h|h
    ·unfold zq1;rw[if_neg (show ¬2<(l.getD k default).kind by omega)];simp
    ·rw[h];simp
   try refine xz2 (gd hlt) za0 ?_
   refine⟨k+1,by omega,by omega,To.mk [0,1] rfl rfl (by decide) ?_ ?_⟩
   ·(try(refine xz1 e ?_;try exact xtI))
   ·(try(refine xz2 (gd hlt) za0 ?_;try exact xtI))
 ·obtain rfl:k=l.length:=by omega
  iterate 2(try simp(etaStruct := .none)only[push_cast,zab,seval,List.take_length];try refine xsu ?_)
  exact xrz rfl
end Go.Proofs.YtbapdgmcndgieaaGreat
namespace Go.Proofs.YtbapdgmcndgieaaGreat
set_option linter.all false
open Go.RowKit
set_option maxRecDepth 100000
set_option maxHeartbeats 400000
theorem zlg (a b:Trp):(decide (a.id=b.id)&&(decide (a.owner=b.owner)&&(decide (a.kind=b.kind)&&(decide (a.c.x=b.c.x)&&(decide (a.c.y=b.c.y)&&(decide (a.life=b.life)&&decide (a.load=b.load)))))))=decide (a=b):=by
 rw[Bool.eq_iff_iff];obtain⟨_,_,_,⟨_,_⟩,_,_⟩:=a;obtain⟨_,_,_,⟨_,_⟩,_,_⟩:=b;simp[and_assoc]
theorem ydt (l m:List Trp) (hl:l.length≤9223372036854775807) (hm:m.length≤9223372036854775807):Spec Tryz.prog 113 [.c (.sl 7 (l.map zaw)),.c (.sl 7 (m.map zaw))] [] (B (decide (l=m))) []:=by
 refine spB Tryz.func113 26 [.tmp 4] Tryz.results113 ?_
 try refine xst ?_
 refine cI (fun h1 => ?_) fun h1 => ?_
 ·have e:l≠m:=by intro e;subst e;simp at h1
  try refine xst ?_
  exact zbe rfl trivial (Wk.of (by rw[decide_eq_false e];rfl))
 ·try refine xst ?_
  refine zas (fun k:Nat=>⟨[(13,I .i64 k),(12,I .i64 l.length),(1,.c (.sl 7 (m.map zaw))),(0,.c (.sl 7 (l.map zaw)))],[],0⟩) (fun k:Nat=>k≤l.length∧∀j,j<k→l.getD j default=m.getD j default) (fun k:Nat=>l.length-k) (0) (⟨Nat.zero_le _,fun j h=>by omega⟩) (To.mk [] rfl rfl List.nodup_nil trivial ?_) ?_
  ·simp(etaStruct := .none)only[push_cast,zab,seval]
  rintro k ⟨hk,hn⟩
  try refine xst ?_
  refine cI (fun h2 => ?_) fun h2 => ?_
  ·have hlt:k<l.length:=by omega
   have hlt2:k<m.length:=by omega
   try refine xz4 (gd hlt) (gd hlt2) zae zlg ?_
   (try(refine⟨by kernel_rfl,?_⟩))
   try refine xz4 (gd hlt) (gd hlt2) zae zlg ?_
   refine cI (fun h3 => ?_) fun h3 => ?_
   ·have e:l≠m:=by intro e;subst e;simp at h3
    try refine xz4 (gd hlt) (gd hlt2) zae zlg ?_
    exact zbe rfl trivial (Wk.of (by rw[decide_eq_false e];rfl))
   ·try refine xz4 (gd hlt) (gd hlt2) zae zlg ?_
    refine⟨k+1,⟨by omega,fun j hj=>by rcases Nat.lt_or_ge j k with h|h;exact hn j h;rw[show j=k by omega];simpa using h3⟩,by omega,To.mk [] rfl rfl List.nodup_nil trivial ?_⟩
    ·(try(refine xz4 (gd hlt) (gd hlt2) zae zlg ?_;try exact xtI))
  ·have e:l=m:=by
    refine List.ext_getElem (by omega) fun i i1 i2 => ?_
    have:=hn i (by omega)
    rwa [zad _ _ i1,zad _ _ i2]at this
   try refine xst ?_
   exact zbe rfl trivial (Wk.of (by rw[decide_eq_true e];rfl))
theorem ztx (a b:Fld) (ha:a.p.length≤9223372036854775807) (hb:b.p.length≤9223372036854775807):Spec Tryz.prog 110 [znh a,znh b] [] (B (decide (a=b))) []:=by
 have e:decide (a=b)=(decide (a.w=b.w)&&decide (a.h=b.h)&&decide (a.p=b.p)):=by
  rw[Bool.eq_iff_iff];obtain⟨_,_,_⟩:=a;obtain⟨_,_,_⟩:=b;simp[and_assoc]
 refine spB Tryz.func110 24 [.tmp 4] Tryz.results110 ?_
 try refine xst ?_
 refine gcP (fun hcc=>z2i a.p b.p ha hb) ?_
 try refine xst ?_
 (first|(refine zar rfl (Wk.of ?_);(try simp(etaStruct := .none)only[push_cast,zab,seval]);first|done|(simp[e, *];done)|(simp_all[e];done))|(refine zar rfl ?_;(try simp(etaStruct := .none)only[push_cast,zab,seval]);(try simp[e, *]);(try exact wkc)))
theorem ztv (a b:Wld) (ha:zdf a) (hb:zdf b):Spec Tryz.prog 69 [zbk a,zbk b] [] (B (decide (a=b))) []:=by
 have e:decide (a=b)=(decide (a.f=b.f)&&decide (a.bases=b.bases)&&decide (a.stocks=b.stocks)&&decide (a.mines=b.mines)&&decide (a.troops=b.troops)&&decide (a.next=b.next)&&decide (a.now=b.now)):=by
  rw[Bool.eq_iff_iff];obtain⟨_,_,_,_,_,_,_⟩:=a;obtain⟨_,_,_,_,_,_,_⟩:=b;simp[and_assoc]
 obtain⟨a1,a2,a3,a4,a5⟩:=ha
 obtain⟨b1,b2,b3,b4,b5⟩:=hb
 refine spB Tryz.func69 52 [.tmp 4] Tryz.results69 ?_
 try refine xst ?_
 refine caP (ztx a.f b.f a1 b1) ?_
 try refine xst ?_
 refine gcP (fun hcc=>yf5 a.bases b.bases a2 b2) ?_
 try refine xst ?_
 refine gcP (fun hcc=>z2i a.stocks b.stocks a3 b3) ?_
 try refine xst ?_
 refine gcP (fun hcc=>z2i a.mines b.mines a4 b4) ?_
 try refine xst ?_
 refine gcP (fun hcc=>ydt a.troops b.troops a5 b5) ?_
 try refine xst ?_
 (first|(refine zar rfl (Wk.of ?_);(try simp(etaStruct := .none)only[push_cast,zab,seval]);first|done|(simp[e, *];done)|(simp_all[e];done))|(refine zar rfl ?_;(try simp(etaStruct := .none)only[push_cast,zab,seval]);(try simp[e, *]);(try exact wkc)))
theorem zbf (l:List Int) (hl:l.length≤17592186044415):Spec Tryz.prog 36 [.c (.sl 1 (l.map zac))] [] (.own 0) [.row 3 1 (l.map zac)]:=by
 refine spB Tryz.func36 8 [.tmp 2] Tryz.results36 ?_
 try refine xst ?_
 intro b hb
 try refine xst ?_
 refine zal (fun h => ?_) (fun h => ?_)
 ·try refine xst ?_
  have e:=hb h
  refine znc (To.nil 2 3 1 rfl) (zco [0] rfl rfl (by decide) ⟨?_,trivial⟩ trivial ?_)
  ·simp(etaStruct := .none)only[push_cast,zab,seval,e]
  ·simp(etaStruct := .none)only[push_cast,zab,seval]
 ·try refine xst ?_
  refine zco [1] rfl rfl (by decide) ⟨?_,trivial⟩ trivial ?_
  ·simp(etaStruct := .none)only[push_cast,zab,seval]
  ·simp(etaStruct := .none)only[push_cast,zab,seval]
theorem zf5 (l:List Int) (hl:l.length≤17592186044415):Spec Tryz.prog 36 [.c (.sl 1 (l.map zac))] [] (.c (.sl 1 (l.map zac))) []:=by
 refine spB Tryz.func36 8 [.tmp 2] Tryz.results36 ?_
 try refine xst ?_
 intro b hb
 try refine xst ?_
 refine zal (fun h => ?_) (fun h => ?_)
 ·try refine xst ?_
  exact zbe rfl trivial (by rw[hb h];exact Wk.nil _)
 ·try refine xst ?_
  exact zbe rfl trivial (Wk.refl _)
theorem z3r (l:List Cel) (hl:l.length≤8796093022207):Spec Tryz.prog 37 [.c (.sl 2 (l.map zaz))] [] (.own 0) [.row 41 2 (l.map zaz)]:=by
 refine spB Tryz.func37 8 [.tmp 2] Tryz.results37 ?_
 try refine xst ?_
 intro b hb
 try refine xst ?_
 refine zal (fun h => ?_) (fun h => ?_)
 ·try refine xst ?_
  have e:=hb h
  refine znc (To.nil 2 41 2 rfl) (zco [0] rfl rfl (by decide) ⟨?_,trivial⟩ trivial ?_)
  ·simp(etaStruct := .none)only[push_cast,zab,seval,e]
  ·simp(etaStruct := .none)only[push_cast,zab,seval]
 ·try refine xst ?_
  refine zco [1] rfl rfl (by decide) ⟨?_,trivial⟩ trivial ?_
  ·simp(etaStruct := .none)only[push_cast,zab,seval]
  ·simp(etaStruct := .none)only[push_cast,zab,seval]
theorem zqn (l:List Cel) (hl:l.length≤8796093022207):Spec Tryz.prog 37 [.c (.sl 2 (l.map zaz))] [] (.c (.sl 2 (l.map zaz))) []:=by
 refine spB Tryz.func37 8 [.tmp 2] Tryz.results37 ?_
 try refine xst ?_
 intro b hb
 try refine xst ?_
 refine zal (fun h => ?_) (fun h => ?_)
 ·try refine xst ?_
  exact zbe rfl trivial (by rw[hb h];exact Wk.nil _)
 ·try refine xst ?_
  exact zbe rfl trivial (Wk.refl _)
theorem zcx (l:List Trp) (hl:l.length≤2513169434916):Spec Tryz.prog 38 [.c (.sl 7 (l.map zaw))] [] (.own 0) [.row 92 7 (l.map zaw)]:=by
 refine spB Tryz.func38 8 [.tmp 2] Tryz.results38 ?_
 try refine xst ?_
 intro b hb
 try refine xst ?_
 refine zal (fun h => ?_) (fun h => ?_)
 ·try refine xst ?_
  have e:=hb h
  refine znc (To.nil 2 92 7 rfl) (zco [0] rfl rfl (by decide) ⟨?_,trivial⟩ trivial ?_)
  ·simp(etaStruct := .none)only[push_cast,zab,seval,e]
  ·simp(etaStruct := .none)only[push_cast,zab,seval]
 ·try refine xst ?_
  refine zco [1] rfl rfl (by decide) ⟨?_,trivial⟩ trivial ?_
  ·simp(etaStruct := .none)only[push_cast,zab,seval]
  ·simp(etaStruct := .none)only[push_cast,zab,seval]
theorem zvk (l:List Trp) (hl:l.length≤2513169434916):Spec Tryz.prog 38 [.c (.sl 7 (l.map zaw))] [] (.c (.sl 7 (l.map zaw))) []:=by
 refine spB Tryz.func38 8 [.tmp 2] Tryz.results38 ?_
 try refine xst ?_
 intro b hb
 try refine xst ?_
 refine zal (fun h => ?_) (fun h => ?_)
 ·try refine xst ?_
  exact zbe rfl trivial (by rw[hb h];exact Wk.nil _)
 ·try refine xst ?_
  exact zbe rfl trivial (Wk.refl _)
end Go.Proofs.YtbapdgmcndgieaaGreat
namespace Go.Proofs.YtbapdgmcndgieaaGreat
set_option linter.all false
open Go.RowKit
set_option maxRecDepth 100000
set_option maxHeartbeats 2000000
theorem zml (a b:Cel):(zi7 a b).length=max (b.x-a.x).natAbs (b.y-a.y).natAbs+1:=by simp[zi7,zaj]
theorem z54 (a:Cel) (sx sy:Int) (X Y k L m:Nat) (hL:L=max X Y) (hm:m=min X Y) (h0:0<L) :
 lpt a sx sy X Y (k+1)=⟨if Y≤X∨2*L≤lr L m k+2*m then (lpt a sx sy X Y k).x+sx else (lpt a sx sy X Y k).x,if X<Y∨2*L≤lr L m k+2*m then (lpt a sx sy X Y k).y+sy else (lpt a sx sy X Y k).y⟩ ∧
 (lr L m (k+1):Int)=if 2*L≤lr L m k+2*m then (lr L m k:Int)+2*m-2*L else lr L m k+2*m:=by
 by_cases h:Y≤X
 ·obtain rfl:L=X:=by omega
  obtain rfl:m=Y:=by omega
  have st:=zps L m k h0 h
  rw[z18 a sx sy L m k h h0,if_pos (show m≤L∨2*L≤lr L m k+2*m from Or.inl h)]
  by_cases hc:2*L≤lr L m k+2*m
  ·rw[if_pos hc,if_pos (show L<m∨2*L≤lr L m k+2*m from Or.inr hc),if_pos hc];exact⟨rfl,by have:=(st.1 hc).2;omega⟩
  ·rw[if_neg hc,if_neg (show ¬(L<m∨2*L≤lr L m k+2*m)by omega),if_neg hc];exact⟨rfl,by have:=(st.2 (by omega)).2;omega⟩
 ·obtain rfl:L=Y:=by omega
  obtain rfl:m=X:=by omega
  have st:=zps L m k h0 (by omega)
  rw[z17 a sx sy m L k (by omega),if_pos (show m<L∨2*L≤lr L m k+2*m from Or.inl (by omega))]
  by_cases hc:2*L≤lr L m k+2*m
  ·rw[if_pos hc,if_pos (show L≤m∨2*L≤lr L m k+2*m from Or.inr hc),if_pos hc];exact⟨rfl,by have:=(st.1 hc).2;omega⟩
  ·rw[if_neg hc,if_neg (show ¬(L≤m∨2*L≤lr L m k+2*m)by omega),if_neg hc];exact⟨rfl,by have:=(st.2 (by omega)).2;omega⟩
theorem zse (a:Cel) (sx sy:Int) (X Y:Nat):zyp a sx sy X Y 0 = [a]:=by simp[zyp,zk4]
theorem ycs (a b:Cel) (ha:zd0 a=true) (hb:zd0 b=true):Spec Tryz.prog 198 [zem a,zem b] [] (.tup [.c (.sl 2 ((zi7 a b).map zaz)),I .i64 0]) []:=by
 have hx:=zfp ha
 have hy:=zfp hb
 obtain⟨sx,hsx⟩:∃s,s=(b.x-a.x).sign:=⟨_,rfl⟩
 obtain⟨sy,hsy⟩:∃s,s=(b.y-a.y).sign:=⟨_,rfl⟩
 obtain⟨X,hX⟩:∃s,s=(b.x-a.x).natAbs:=⟨_,rfl⟩
 obtain⟨Y,hY⟩:∃s,s=(b.y-a.y).natAbs:=⟨_,rfl⟩
 have gx:=sg (b.x-a.x)
 have gy:=sg (b.y-a.y)
 rw[←hsx]at gx
 rw[←hsy]at gy
 have S1:=zvu (b.x-a.x) (by omega) (by omega)
 have S2:=zvu (b.y-a.y) (by omega) (by omega)
 have hX2:X≤2000:=by omega
 have hY2:Y≤2000:=by omega
 unfold zi7
 rw[←hsx,←hX]at S1 ⊢
 rw[←hsy,←hY]at S2 ⊢
 obtain⟨L,hL⟩:∃L,L=max X Y:=⟨_,rfl⟩
 obtain⟨m,hm⟩:∃m,m=min X Y:=⟨_,rfl⟩
 rw[←hL]
 have LR:=fun k h0=>yiv L m k h0
 have NR:=fun k hk=>z55 a sx sy X Y k gx gy hX2 hY2 hk ha
 clear hsx hsy hX hY
 refine spB Tryz.func198 93 [.tmp 4,.tmp 5] Tryz.results198 ?_
 try refine xz1 zaj ?_
 refine caP (zwl a (by omega) (by omega)) ?_
 try refine xz1 zaj ?_
 refine gcP (fun hcc=>zwl b (by omega) (by omega)) ?_
 try refine xz1 zaj ?_
 refine cI (fun h1 => ?_) fun h1 => ?_
 ·simp[ha,hb]at h1
 ·try refine xz1 zaj ?_
  refine caP (S1) ?_
  try refine xz1 zaj ?_
  refine caP (S2) ?_
  try refine xz1 zaj ?_
  refine zmz (fun _u:Unit=>⟨[(10,I .i64 L),(11,I .i64 m),(9,I .i64 Y),(8,I .i64 sy),(7,I .i64 X),(6,I .i64 sx),(2,.ptr 0 0 0)],[(0,.blk 41 [I .i64 a.x,I .i64 a.y])],1⟩) (fun _u:Unit=>Tr) (fun h2 => ?_) (fun h2 => ?_) ?_
  ·(try replace h2:=xhh h2)
   obtain rfl:L=Y:=by omega
   obtain rfl:m=X:=by omega
   try refine xz1 zaj ?_
   refine⟨(),trI,To.mk [0] rfl rfl (by decide) ?_ ?_⟩
   ·(try(refine xz1 zaj ?_;try exact xtI))
   ·(try(refine xz1 zaj ?_;try exact xtI))
  ·(try replace h2:=xhh h2)
   obtain rfl:L=X:=by omega
   obtain rfl:m=Y:=by omega
   try refine xz1 zaj ?_
   refine⟨(),trI,To.mk [0] rfl rfl (by decide) ?_ ?_⟩
   ·(try(refine xz1 zaj ?_;try exact xtI))
   ·(try(refine xz1 zaj ?_;try exact xtI))
  ·rintro _ _
   try refine xz1 zaj ?_
   refine zas (fun k:Nat=>⟨[(51,I .i64 k),(50,I .i64 L),(13,I .i64 ((lr L m k:Int)-L)),(12,.own 1),(11,I .i64 m),(10,I .i64 L),(9,I .i64 Y),(8,I .i64 sy),(7,I .i64 X),(6,I .i64 sx),(2,.ptr 0 0 0)],[(0,.blk 41 [I .i64 (lpt a sx sy X Y k).x,I .i64 (lpt a sx sy X Y k).y]),(1,.row 41 2 ((zyp a sx sy X Y k).map zaz))],2⟩) (fun k:Nat=>k≤L) (fun k:Nat=>L-k) (0) (Nat.zero_le _) (To.mk [0,1] rfl rfl (by decide) ?_ ?_) ?_
   ·simp(etaStruct := .none)only[push_cast,zab,seval,zk4,zse,zaz]
   ·simp(etaStruct := .none)only[push_cast,zab,seval,zk4,ybi,Int.sub_self]
   rintro k hk
   try refine xz1 zaj ?_
   refine cI (fun h3 => ?_) fun h3 => ?_
   ·have hlt:k<L:=by omega
    obtain⟨ST,SR⟩:=z54 a sx sy X Y k L m hL hm (by omega)
    have hlr:=LR k (by omega)
    have hnr:=NR k (by omega)
    have hnr2:=NR (k+1) (by omega)
    try refine xz1 zaj ?_
    refine zmz (fun o:Bool=>⟨[(51,I .i64 k),(50,I .i64 L),(14,B o),(13,I .i64 ((lr L m (k+1):Int)-L)),(12,.own 1),(11,I .i64 m),(10,I .i64 L),(9,I .i64 Y),(8,I .i64 sy),(7,I .i64 X),(6,I .i64 sx),(2,.ptr 0 0 0)],[(0,.blk 41 [I .i64 (lpt a sx sy X Y k).x,I .i64 (lpt a sx sy X Y k).y]),(1,.row 41 2 ((zyp a sx sy X Y k).map zaz))],2⟩) (fun o:Bool=>(o=true↔2*L≤lr L m k+2*m)) (fun h4 => ?_) (fun h4 => ?_) ?_
    ·(try replace h4:=xhh h4)
     have e1:(lr L m k:Int)-L+2*m-2*L=(lr L m (k+1):Int)-L:=by rw[SR,if_pos (by omega)];omega
     have e2:decide ((L:Int)≤(lr L m k:Int)-L+2*m)=true:=by simp;omega
     try refine xz3 zaj e1 e2 ?_
     refine⟨true,by simp;omega,To.mk [0,1] rfl rfl (by decide) ?_ ?_⟩
     ·(try(refine xz3 zaj e1 e2 ?_;try exact xtI))
     ·(try(refine xz3 zaj e1 e2 ?_;try exact xtI))
    ·(try replace h4:=xhh h4)
     have e1:(lr L m k:Int)-L+2*m=(lr L m (k+1):Int)-L:=by rw[SR,if_neg (by omega)];omega
     have e2:decide ((L:Int)≤(lr L m (k+1):Int)-L)=false:=by rw[←e1];simp;omega
     try refine xz3 zaj e1 e2 ?_
     refine⟨false,by simp;omega,To.mk [0,1] rfl rfl (by decide) ?_ ?_⟩
     ·(try(refine xz3 zaj e1 e2 ?_;try exact xtI))
     ·(try(refine xz3 zaj e1 e2 ?_;try exact xtI))
    ·rintro o ho
     try refine xz1 zaj ?_
     refine zmz (fun _u:Unit=>⟨[(51,I .i64 k),(50,I .i64 L),(14,B o),(13,I .i64 ((lr L m (k+1):Int)-L)),(12,.own 1),(11,I .i64 m),(10,I .i64 L),(9,I .i64 Y),(8,I .i64 sy),(7,I .i64 X),(6,I .i64 sx),(2,.ptr 0 0 0)],[(0,.blk 41 [I .i64 (lpt a sx sy X Y (k+1)).x,I .i64 (lpt a sx sy X Y k).y]),(1,.row 41 2 ((zyp a sx sy X Y k).map zaz))],2⟩) (fun _u:Unit=>Tr) (fun h5 => ?_) (fun h5 => ?_) ?_
     ·(try replace h5:=xhh h5)
      rw[ho]at h5
      have e1:(lpt a sx sy X Y k).x+sx=(lpt a sx sy X Y (k+1)).x:=by rw[ST];simp only;rw[if_pos (by omega)]
      try refine xz2 zaj e1 ?_
      refine⟨(),trI,To.mk [0,1] rfl rfl (by decide) ?_ ?_⟩
      ·(try(refine xz2 zaj e1 ?_;try exact xtI))
      ·(try(refine xz2 zaj e1 ?_;try exact xtI))
     ·(try replace h5:=xhh h5)
      rw[Bool.eq_false_iff,ne_eq,ho]at h5
      have e1:(lpt a sx sy X Y k).x=(lpt a sx sy X Y (k+1)).x:=by rw[ST];simp only;rw[if_neg (by omega)]
      try refine xz1 zaj ?_
      refine⟨(),trI,To.mk [0,1] rfl rfl (by decide) ?_ ?_⟩
      ·simp(etaStruct := .none)only[push_cast,zab,seval]
       rw[←e1]
       simp(etaStruct := .none)only[push_cast,zab,seval]
      ·(try(refine xz1 zaj ?_;try exact xtI))
     ·rintro _ _
      try refine xz1 zaj ?_
      refine cI (fun h6 => ?_) fun h6 => ?_
      ·rw[ho]at h6
       have e1:(lpt a sx sy X Y k).y+sy=(lpt a sx sy X Y (k+1)).y:=by rw[ST];simp only;rw[if_pos (by omega)]
       try refine xz2 zaj e1 ?_
       refine⟨k+1,by omega,by omega,To.mk [0,3] rfl rfl (by decide) ?_ ?_⟩
       ·(iterate 2((try simp(etaStruct := .none)only[push_cast,zab,seval,zi6,List.map_append,zaz]);(try(refine xsu ?_;try exact xtI))))
       ·(try(refine xz2 zaj e1 ?_;try exact xtI))
      ·rw[Bool.eq_false_iff,ne_eq,ho]at h6
       have e1:(lpt a sx sy X Y k).y=(lpt a sx sy X Y (k+1)).y:=by rw[ST];simp only;rw[if_neg (by omega)]
       try refine xz1 zaj ?_
       refine⟨k+1,by omega,by omega,To.mk [0,3] rfl rfl (by decide) ?_ ?_⟩
       ·iterate 2(try simp(etaStruct := .none)only[push_cast,zab,seval,zi6,List.map_append,zaz];try refine xsu ?_)
        rw[←e1]
        exact⟨Wk.refl _,rfl⟩
       ·(try(refine xz1 zaj ?_;try exact xtI))
   ·obtain rfl:k=L:=by omega
    try refine xz1 zaj ?_
    exact xrz rfl
theorem z58 (a b:Cel) (ha:zd0 a=true) (hb:zd0 b=true) (hm:max (b.x-a.x).natAbs (b.y-a.y).natAbs≤120):Spec Tryz.prog 205 [zem a,zem b] [] (.c (.sl 2 ((zi7 a b).map zaz))) []:=by
 have hx:=zfp ha
 have hy:=zfp hb
 obtain⟨sx,hsx⟩:∃s,s=(b.x-a.x).sign:=⟨_,rfl⟩
 obtain⟨sy,hsy⟩:∃s,s=(b.y-a.y).sign:=⟨_,rfl⟩
 obtain⟨X,hX⟩:∃s,s=(b.x-a.x).natAbs:=⟨_,rfl⟩
 obtain⟨Y,hY⟩:∃s,s=(b.y-a.y).natAbs:=⟨_,rfl⟩
 have F1:=zsv a.x b.x (by omega) (by omega)
 have F2:=zsv a.y b.y (by omega) (by omega)
 rw[show (a.x-b.x).natAbs=X by omega]at F1
 rw[show (a.y-b.y).natAbs=Y by omega]at F2
 unfold zi7
 rw[←hsx,←hsy,←hX,←hY]
 rw[←hX,←hY]at hm
 have EM:(if (Y:Int)>X then (Y:Int)else X)=(max X Y:Nat):=by split<;>omega
 have gx:=sg (b.x-a.x)
 have gy:=sg (b.y-a.y)
 rw[←hsx]at gx
 rw[←hsy]at gy
 refine spB Tryz.func205 80 [.tmp 4] Tryz.results205 ?_
 iterate 2(try simp(etaStruct := .none)only[push_cast,zab,seval,EM,zaj];try refine xsu ?_)
 refine caP (F1) ?_
 iterate 2(try simp(etaStruct := .none)only[push_cast,zab,seval,EM,zaj];try refine xsu ?_)
 refine caP (F2) ?_
 iterate 2(try simp(etaStruct := .none)only[push_cast,zab,seval,EM,zaj];try refine xsu ?_)
 (try(refine⟨by kernel_rfl,?_⟩))
 iterate 2(try simp(etaStruct := .none)only[push_cast,zab,seval,EM,zaj];try refine xsu ?_)
 refine zas (fun k:Nat=>⟨[(8,I .i64 ((k:Int)+1)),(7,.own 2),(6,I .i64 Y),(5,I .i64 X),(3,.ptr 1 0 0),(2,.ptr 0 0 0)],[(0,.blk 41 [I .i64 a.x,I .i64 a.y]),(1,.blk 41 [I .i64 b.x,I .i64 b.y]),(2,.row 41 2 ((zyp a sx sy X Y k).map zaz))],3⟩) (fun k:Nat=>k≤max X Y) (fun k:Nat=>max X Y-k) (0) (Nat.zero_le _) (To.mk [0,1,50] rfl rfl (by decide) ?_ ?_) ?_
 ·simp(etaStruct := .none)only[push_cast,zab,seval,zse,zaz]
 ·simp(etaStruct := .none)only[push_cast,zab,seval,Int.zero_add]
 rintro k hk
 iterate 2(try simp(etaStruct := .none)only[push_cast,zab,seval,EM,zaj];try refine xsu ?_)
 refine cI (fun h1 => ?_) fun h1 => ?_
 ·have hlt:k<max X Y:=by omega
  have m1:=zfq (k+1) (b.x-a.x) 120 2000 (by omega) (by omega)
  have m2:=zfq (k+1) (b.y-a.y) 120 2000 (by omega) (by omega)
  simp only[Int.natCast_add,Int.cast_ofNat_Int,Int.natCast_one]at m1 m2
  iterate 2(try simp(etaStruct := .none)only[push_cast,zab,seval,EM,zaj];try refine xsu ?_)
  refine cI (fun h2 => ?_) fun h2 => ?_
  ·have t1:=zq9 (k+1) X (b.x-a.x) sx hsx.symm hX.symm (by omega)
   obtain⟨s',a1,a2,a3⟩:=zon X Y (k+1) a.y b.y sy hsy.symm hY.symm
   have q1:=zsd X Y (k+1) (by omega) (by omega)
   have AS:=z31 X Y (k+1) a.y b.y s' (by omega) (by omega) (by omega) (by omega) a1 a2 (by omega) (by omega)
   rw[a3]at AS
   have LE:lpt a sx sy X Y (k+1)=⟨a.x+sx*(k+1:Nat),a.y+sy*lq X Y (k+1)⟩:=by unfold lpt;rw[if_pos (by omega)]
   have q3 : -120≤sx*((k:Int)+1)∧sx*((k:Int)+1)≤120:=by rcases gx with h|h|h<;>rw[h]<;>omega
   simp only[Int.natCast_add,Int.cast_ofNat_Int,Int.natCast_one]at t1 LE AS
   iterate 2(try simp(etaStruct := .none)only[push_cast,zab,seval,EM,zaj,t1];try refine xsu ?_)
   (try(refine⟨by kernel_rfl,?_⟩))
   iterate 2(try simp(etaStruct := .none)only[push_cast,zab,seval,EM,zaj,t1];try refine xsu ?_)
   refine caP (AS) ?_
   iterate 2(try simp(etaStruct := .none)only[push_cast,zab,seval,EM,zaj,t1];try refine xsu ?_)
   refine⟨k+1,by omega,by omega,To.mk [0,1,61] rfl rfl (by decide) ?_ ?_⟩
   ·(iterate 2((try simp(etaStruct := .none)only[push_cast,zab,seval,zi6,List.map_append,zaz,LE]);(try(refine xsu ?_;try exact xtI))))
   ·(iterate 2((try simp(etaStruct := .none)only[push_cast,zab,seval,EM,zaj,t1]);(try(refine xsu ?_;try exact xtI))))
  ·have t1:=zq9 (k+1) Y (b.y-a.y) sy hsy.symm hY.symm (by omega)
   obtain⟨s',a1,a2,a3⟩:=zon Y X (k+1) a.x b.x sx hsx.symm hX.symm
   have q1:=zsd Y X (k+1) (by omega) (by omega)
   have AS:=z31 Y X (k+1) a.x b.x s' (by omega) (by omega) (by omega) (by omega) a1 a2 (by omega) (by omega)
   rw[a3]at AS
   have LE:lpt a sx sy X Y (k+1)=⟨a.x+sx*lq Y X (k+1),a.y+sy*(k+1:Nat)⟩:=by unfold lpt;rw[if_neg (by omega)]
   have q3 : -120≤sy*((k:Int)+1)∧sy*((k:Int)+1)≤120:=by rcases gy with h|h|h<;>rw[h]<;>omega
   simp only[Int.natCast_add,Int.cast_ofNat_Int,Int.natCast_one]at t1 LE AS
   iterate 2(try simp(etaStruct := .none)only[push_cast,zab,seval,EM,zaj,t1];try refine xsu ?_)
   (try(refine⟨by kernel_rfl,?_⟩))
   iterate 2(try simp(etaStruct := .none)only[push_cast,zab,seval,EM,zaj,t1];try refine xsu ?_)
   refine caP (AS) ?_
   iterate 2(try simp(etaStruct := .none)only[push_cast,zab,seval,EM,zaj,t1];try refine xsu ?_)
   refine⟨k+1,by omega,by omega,To.mk [0,1,61] rfl rfl (by decide) ?_ ?_⟩
   ·(iterate 2((try simp(etaStruct := .none)only[push_cast,zab,seval,zi6,List.map_append,zaz,LE]);(try(refine xsu ?_;try exact xtI))))
   ·(iterate 2((try simp(etaStruct := .none)only[push_cast,zab,seval,EM,zaj,t1]);(try(refine xsu ?_;try exact xtI))))
 ·obtain rfl:k=max X Y:=by omega
  iterate 2(try simp(etaStruct := .none)only[push_cast,zab,seval,EM,zaj];try refine xsu ?_)
  exact xrz rfl
end Go.Proofs.YtbapdgmcndgieaaGreat
namespace Go.Proofs.YtbapdgmcndgieaaGreat
set_option linter.all false
open Go.RowKit
theorem z8l (n m:Nat) (hn:0<n) (_:m≤n):lq n m n=m:=by
 unfold lq
 rw[show 2*n*m+n=n+2*n*m by omega,Nat.add_mul_div_left _ _ (by omega),Nat.div_eq_of_lt (by omega)];omega
theorem zo3 (d:Int) (n:Nat) (h:n=d.natAbs):d.sign*n=d:=by rw[h];exact Int.sign_mul_natAbs d
theorem zu9 (d:Int) (q:Nat) (hq:q≤d.natAbs) (f:Int):min f (f+d)≤f+d.sign*q∧f+d.sign*q≤max f (f+d):=by
 rcases Int.lt_trichotomy d 0 with h|h|h
 ·rw[Int.sign_eq_neg_one_of_neg h];omega
 ·subst h;simp
 ·rw[Int.sign_eq_one_of_pos h];omega
theorem ybk (a b:Cel) (k:Nat) (hk:k≤max (b.x-a.x).natAbs (b.y-a.y).natAbs) :
 (min a.x b.x≤(lpt a (b.x-a.x).sign (b.y-a.y).sign (b.x-a.x).natAbs (b.y-a.y).natAbs k).x∧(lpt a (b.x-a.x).sign (b.y-a.y).sign (b.x-a.x).natAbs (b.y-a.y).natAbs k).x≤max a.x b.x) ∧
 (min a.y b.y≤(lpt a (b.x-a.x).sign (b.y-a.y).sign (b.x-a.x).natAbs (b.y-a.y).natAbs k).y∧(lpt a (b.x-a.x).sign (b.y-a.y).sign (b.x-a.x).natAbs (b.y-a.y).natAbs k).y≤max a.y b.y):=by
 have ex:a.x+(b.x-a.x)=b.x:=by omega
 have ey:a.y+(b.y-a.y)=b.y:=by omega
 unfold lpt
 split
 ·rename_i h
  have hq:lq (b.x-a.x).natAbs (b.y-a.y).natAbs k≤(b.y-a.y).natAbs:=by
   rcases Nat.eq_zero_or_pos (b.x-a.x).natAbs with h0|h0
   ·have:k=0:=by omega
    subst this;rw[zpr];omega
   ·exact zsd _ _ _ h0 (by omega)
  have w1:=zu9 (b.x-a.x) k (by omega) a.x
  have w2:=zu9 (b.y-a.y) _ hq a.y
  rw[ex]at w1;rw[ey]at w2
  exact⟨w1,w2⟩
 ·rename_i h
  have hq:lq (b.y-a.y).natAbs (b.x-a.x).natAbs k≤(b.x-a.x).natAbs:=zsd _ _ _ (by omega) (by omega)
  have w1:=zu9 (b.y-a.y) k (by omega) a.y
  have w2:=zu9 (b.x-a.x) _ hq a.x
  rw[ey]at w1;rw[ex]at w2
  exact⟨w2,w1⟩
theorem z56 (a b:Cel):lpt a (b.x-a.x).sign (b.y-a.y).sign (b.x-a.x).natAbs (b.y-a.y).natAbs (max (b.x-a.x).natAbs (b.y-a.y).natAbs)=b:=by
 obtain⟨bx,by_⟩:=b
 unfold lpt
 split
 ·rename_i h
  simp only at h ⊢
  rw[Nat.max_eq_left h,zo3 _ _ rfl]
  rcases Nat.eq_zero_or_pos (bx-a.x).natAbs with h0|h0
  ·rw[h0,zpr];congr 1;omega;simp;omega
  ·rw[z8l _ _ h0 h,zo3 _ _ rfl];congr 1<;>omega
 ·rename_i h
  simp only at h ⊢
  rw[Nat.max_eq_right (by omega),zo3 _ _ rfl,z8l _ _ (by omega) (by omega),zo3 _ _ rfl];congr 1<;>omega
theorem z73 {d:Int} {k:Nat} (h1:0<k) (h2:k<d.natAbs):d.sign*k≠0∧d.sign*k≠d:=by
 rcases Int.lt_trichotomy d 0 with h|h|h
 ·rw[Int.sign_eq_neg_one_of_neg h];omega
 ·subst h;simp at h2
 ·rw[Int.sign_eq_one_of_pos h];omega
theorem ybj (a b:Cel) (k:Nat) (h0:0<k) (hk:k<max (b.x-a.x).natAbs (b.y-a.y).natAbs) :
 lpt a (b.x-a.x).sign (b.y-a.y).sign (b.x-a.x).natAbs (b.y-a.y).natAbs k≠a∧lpt a (b.x-a.x).sign (b.y-a.y).sign (b.x-a.x).natAbs (b.y-a.y).natAbs k≠b:=by
 have key:∀p:Cel,(p.x≠a.x∧p.x≠b.x∨p.y≠a.y∧p.y≠b.y)→p≠a∧p≠b:=by
  intro p h
  constructor
  ·intro e;subst e;omega
  ·intro e;subst e;omega
 apply key
 unfold lpt
 split
 ·have:=z73 (d:=b.x-a.x) h0 (by omega)
  simp only;omega
 ·have:=z73 (d:=b.y-a.y) h0 (by omega)
  simp only;omega
theorem zwx (a b:Cel) (k:Nat) (hk:k≤max (b.x-a.x).natAbs (b.y-a.y).natAbs):(zi7 a b).getD k default=lpt a (b.x-a.x).sign (b.y-a.y).sign (b.x-a.x).natAbs (b.y-a.y).natAbs k:=by
 rw[zad _ _ (by rw[zml];omega)]
 simp[zi7,zyp]
theorem zk6 {f:Fld} {c:Cel} (h:zbp f=0) (hc:inF f c=true):zd0 c=true:=by
 obtain⟨h1,h2,_,_⟩:=zba h
 obtain⟨h3,h4⟩:=inF_iff.1 hc
 unfold zd0;simp;omega
theorem z2b {f:Fld} {a b:Cel} (ha:inF f a=true) (hb:inF f b=true) (k:Nat) (hk:k≤max (b.x-a.x).natAbs (b.y-a.y).natAbs):inF f ((zi7 a b).getD k default)=true:=by
 rw[zwx a b k hk]
 have:=ybk a b k hk
 rw[inF_iff]at ha hb ⊢
 omega
theorem zww {f:Fld} {a b:Cel} (h:zbp f=0) (ha:inF f a=true) (hb:inF f b=true):(b.x-a.x).natAbs≤39∧(b.y-a.y).natAbs≤39:=by
 obtain⟨h1,h2,_,_⟩:=zba h
 rw[inF_iff]at ha hb
 omega
def zkm (p:Int):Bool:=decide (p % 3=0)
def zry (f:Fld) (a b:Cel):Bool:=(List.range (max (b.x-a.x).natAbs (b.y-a.y).natAbs-1)).all fun k=>zkm (zag f ((zi7 a b).getD (k+1) default))
theorem z1k {f:Fld} {a b:Cel} (h:∀k,0<k→k<max (b.x-a.x).natAbs (b.y-a.y).natAbs→zkm (zag f ((zi7 a b).getD k default))=true):zry f a b=true:=by
 unfold zry
 rw[List.all_eq_true]
 intro k hk
 exact h (k+1) (by omega) (by simp at hk;omega)
theorem z1l {f:Fld} {a b:Cel} {k:Nat} (h0:0<k) (h1:k<max (b.x-a.x).natAbs (b.y-a.y).natAbs) (h:zkm (zag f ((zi7 a b).getD k default))=false):zry f a b=false:=by
 unfold zry
 rw[List.all_eq_false]
 refine⟨k-1,by simp;omega,?_⟩
 rw[show k-1+1=k by omega,h];simp
def zgg (f:Fld) (a b:Cel):Bool:=zry f a b||zry f b a
theorem zwb {f:Fld} (h:zbp f=0) {c:Cel} (hc:inF f c=true):0≤zag f c∧zag f c<4:=by
 obtain⟨_,_,_,h4⟩:=zba h
 obtain⟨_,_,i3,i4,_⟩:=za8 h hc
 have hl:(c.y*f.w+c.x).toNat<f.p.length:=by omega
 unfold zag
 rw[zad _ _ hl]
 exact h4 _ (List.getElem_mem hl)
end Go.Proofs.YtbapdgmcndgieaaGreat
namespace Go.Proofs.YtbapdgmcndgieaaGreat
set_option linter.all false
open Go.RowKit
set_option maxRecDepth 100000
set_option maxHeartbeats 2000000
theorem z9a (f:Fld) (a b:Cel) (hf:zbp f=0) (ha:inF f a=true) (hb:inF f b=true):Spec Tryz.prog 187 [znh f,zem a,zem b] [] (B (zry f a b)) []:=by
 have CS:=ycs a b (zk6 hf ha) (zk6 hf hb)
 have LL:=zml a b
 have LF:=zww hf ha hb
 have LI:=fun k hk=>z2b ha hb k hk
 have LT := @z1k f a b
 have LN := @z1l f a b
 have PL:f.p.length≤1600:=(za8 hf ha).2.2.2.2
 generalize zi7 a b=l at CS LL LI LT LN
 obtain⟨L,hL⟩:∃L,L=max (b.x-a.x).natAbs (b.y-a.y).natAbs:=⟨_,rfl⟩
 rw[←hL]at LL LI LT LN
 have hLL:L≤39:=by omega
 clear hL
 refine spB Tryz.func187 45 [.tmp 6] Tryz.results187 ?_
 iterate 2(try simp(etaStruct := .none)only[push_cast,zab,seval,LL,Int.add_sub_cancel];try refine xsu ?_)
 refine caP (CS) ?_
 iterate 2(try simp(etaStruct := .none)only[push_cast,zab,seval,LL,Int.add_sub_cancel];try refine xsu ?_)
 refine cI (fun h1 => ?_) fun h1 => ?_
 ·have hl2:L≤1:=by omega
  have e:=LT (fun k h0 h1=>by omega)
  iterate 2(try simp(etaStruct := .none)only[push_cast,zab,seval,LL,Int.add_sub_cancel];try refine xsu ?_)
  (first|(refine zar rfl (Wk.of ?_);(try simp(etaStruct := .none)only[push_cast,zab,seval]);first|done|(simp[e, *];done)|(simp_all[e];done))|(refine zar rfl ?_;(try simp(etaStruct := .none)only[push_cast,zab,seval]);(try simp[e, *]);(try exact wkc)))
 ·have e3:((l.map zaz).take L).drop 1=((l.take L).drop 1).map zaz:=by rw[List.map_drop,List.map_take]
  have e4:((l.take L).drop 1).length=L-1:=by simp;omega
  have e5:∀k,k<L-1→((l.take L).drop 1).getD k default=l.getD (k+1) default:=by intro k hk;simp[List.getD_eq_getElem?_getD,List.getElem?_drop,List.getElem?_take,show k+1<L by omega,Nat.add_comm]
  iterate 2(try simp(etaStruct := .none)only[push_cast,zab,seval,LL,Int.add_sub_cancel,e3,e4];try refine xsu ?_)
  refine zas (fun k:Nat=>⟨[(28,I .i64 k),(27,I .i64 (L-1:Nat)),(26,.c (.sl 2 (((l.take L).drop 1).map zaz))),(3,.ptr 0 0 0)],[(0,.blk 24 [I .i64 f.w,I .i64 f.h,.c (.sl 1 (f.p.map zac))])],1⟩) (fun k:Nat=>k≤L-1∧∀j,0<j→j≤k→zkm (zag f (l.getD j default))=true) (fun k:Nat=>L-1-k) (0) (⟨Nat.zero_le _,fun j h h'=>by omega⟩) (To.mk [0] rfl rfl (by decide) ?_ ?_) ?_
  ·simp(etaStruct := .none)only[push_cast,zab,seval]
  ·simp(etaStruct := .none)only[push_cast,zab,seval]
  rintro k ⟨hk,hn⟩
  iterate 2(try simp(etaStruct := .none)only[push_cast,zab,seval,LL,Int.add_sub_cancel,e3,e4];try refine xsu ?_)
  refine cI (fun h2 => ?_) fun h2 => ?_
  ·have hlt:k<L-1:=by omega
   have hlt2:k<((l.take L).drop 1).length:=by omega
   have e6:=e5 k hlt
   have hin:=LI (k+1) (by omega)
   have AT:=zzk f (l.getD (k+1) default) (by omega)
   have AV:atV f (l.getD (k+1) default)=(zag f (l.getD (k+1) default),0):=by unfold atV;rw[if_neg (by simp[hf]),if_pos hin]
   rw[AV]at AT
   have p03:=zwb hf hin
   iterate 2(try simp(etaStruct := .none)only[push_cast,zab,seval,LL,Int.add_sub_cancel,e3,e4,zaa _ _ _ hlt2,zaz,e6];try refine xsu ?_)
   refine caP (AT) ?_
   iterate 2(try simp(etaStruct := .none)only[push_cast,zab,seval,LL,Int.add_sub_cancel,e3,e4,zaa _ _ _ hlt2,zaz,e6];try refine xsu ?_)
   refine cI (fun h3 => ?_) fun h3 => ?_
   ·have hc:zkm (zag f (l.getD (k+1) default))=false:=decide_eq_false (by omega)
    have e:=LN (by omega) (by omega) hc
    iterate 2(try simp(etaStruct := .none)only[push_cast,zab,seval,LL,Int.add_sub_cancel,e3,e4,zaa _ _ _ hlt2,zaz,e6];try refine xsu ?_)
    (first|(refine zar rfl (Wk.of ?_);(try simp(etaStruct := .none)only[push_cast,zab,seval]);first|done|(simp[e, *];done)|(simp_all[e];done))|(refine zar rfl ?_;(try simp(etaStruct := .none)only[push_cast,zab,seval]);(try simp[e, *]);(try exact wkc)))
   ·have hc:zkm (zag f (l.getD (k+1) default))=true:=decide_eq_true (by omega)
    iterate 2(try simp(etaStruct := .none)only[push_cast,zab,seval,LL,Int.add_sub_cancel,e3,e4,zaa _ _ _ hlt2,zaz,e6];try refine xsu ?_)
    refine⟨k+1,⟨by omega,fun j h0 h1=>by rcases Nat.lt_or_ge k j with h|h;rw[show j=k+1 by omega];exact hc;exact hn j h0 h⟩,by omega,To.mk [0] rfl rfl (by decide) ?_ ?_⟩
    ·(iterate 2((try simp(etaStruct := .none)only[push_cast,zab,seval,LL,Int.add_sub_cancel,e3,e4,zaa _ _ _ hlt2,zaz,e6]);(try(refine xsu ?_;try exact xtI))))
    ·(iterate 2((try simp(etaStruct := .none)only[push_cast,zab,seval,LL,Int.add_sub_cancel,e3,e4,zaa _ _ _ hlt2,zaz,e6]);(try(refine xsu ?_;try exact xtI))))
  ·have e:=LT (fun j h0 h1=>hn j h0 (by omega))
   iterate 2(try simp(etaStruct := .none)only[push_cast,zab,seval,LL,Int.add_sub_cancel,e3,e4];try refine xsu ?_)
   (first|(refine zar rfl (Wk.of ?_);(try simp(etaStruct := .none)only[push_cast,zab,seval]);first|done|(simp[e, *];done)|(simp_all[e];done))|(refine zar rfl ?_;(try simp(etaStruct := .none)only[push_cast,zab,seval]);(try simp[e, *]);(try exact wkc)))
theorem zn4 (f:Fld) (a b:Cel) (hf:zbp f=0) (ha:inF f a=true) (hb:inF f b=true):Spec Tryz.prog 197 [znh f,zem a,zem b] [] (B (zry f a b)) []:=by
 have LF:=zww hf ha hb
 have CS:=z58 a b (zk6 hf ha) (zk6 hf hb) (by omega)
 have LL:=zml a b
 have LI:=fun k hk=>z2b ha hb k hk
 have LT := @z1k f a b
 have LN := @z1l f a b
 have LA:=zwx a b
 have MID:=ybj a b
 have L0:=zk4 a (b.x-a.x).sign (b.y-a.y).sign (b.x-a.x).natAbs (b.y-a.y).natAbs
 have LZ:=z56 a b
 have PL:f.p.length≤1600:=(za8 hf ha).2.2.2.2
 generalize zi7 a b=l at CS LL LI LT LN LA
 generalize lpt a (b.x-a.x).sign (b.y-a.y).sign (b.x-a.x).natAbs (b.y-a.y).natAbs=g at LA MID L0 LZ
 obtain⟨L,hL⟩:∃L,L=max (b.x-a.x).natAbs (b.y-a.y).natAbs:=⟨_,rfl⟩
 rw[←hL]at LL LI LT LN LA MID LZ
 have hLL:L≤39:=by omega
 clear hL
 refine spB Tryz.func197 35 [.tmp 6] Tryz.results197 ?_
 iterate 2(try simp(etaStruct := .none)only[push_cast,zab,seval,LL];try refine xsu ?_)
 refine caP (CS) ?_
 iterate 2(try simp(etaStruct := .none)only[push_cast,zab,seval,LL];try refine xsu ?_)
 refine zas (fun k:Nat=>⟨[(14,I .i64 k),(13,I .i64 (L+1:Nat)),(12,.c (.sl 2 (l.map zaz))),(5,.ptr 2 0 0),(4,.ptr 1 0 0),(3,.ptr 0 0 0)],[(0,.blk 24 [I .i64 f.w,I .i64 f.h,.c (.sl 1 (f.p.map zac))]),(1,.blk 41 [I .i64 a.x,I .i64 a.y]),(2,.blk 41 [I .i64 b.x,I .i64 b.y])],3⟩) (fun k:Nat=>k≤L+1∧∀j,0<j→j<k→j<L→zkm (zag f (l.getD j default))=true) (fun k:Nat=>L+1-k) (0) (⟨Nat.zero_le _,fun j h h'=>by omega⟩) (To.mk [0,1,2] rfl rfl (by decide) ?_ ?_) ?_
 ·simp(etaStruct := .none)only[push_cast,zab,seval]
 ·simp(etaStruct := .none)only[push_cast,zab,seval]
 rintro k ⟨hk,hn⟩
 iterate 2(try simp(etaStruct := .none)only[push_cast,zab,seval,LL];try refine xsu ?_)
 refine cI (fun h1 => ?_) fun h1 => ?_
 ·have hlt:k<l.length:=by omega
  have hin:=LI k (by omega)
  have p03:=zwb hf hin
  have eL:=LA k (by omega)
  have PS:=zjw f (l.getD k default) hf hin
  have ca:=zbz (l.getD k default) a
  have cb:=zbz (l.getD k default) b
  iterate 2(try simp(etaStruct := .none)only[push_cast,zab,seval,LL,zaa _ _ _ hlt,zaz,ca,cb];try refine xsu ?_)
  refine caP (PS) ?_
  iterate 2(try simp(etaStruct := .none)only[push_cast,zab,seval,LL,zaa _ _ _ hlt,zaz,ca,cb];try refine xsu ?_)
  refine cI (fun h2 => ?_) fun h2 => ?_
  ·have hk0:0<k:=by
    rcases Nat.eq_zero_or_pos k with e|e
    ·subst e;rw[eL,L0]at h2;exact absurd rfl h2.1.1
    ·exact e
   have hkL:k<L:=by
    rcases Nat.lt_or_ge k L with e|e
    ·exact e
    ·obtain rfl:k=L:=by omega
     rw[eL,LZ]at h2;exact absurd rfl h2.1.2
   have e:=LN hk0 hkL (decide_eq_false h2.2)
   iterate 2(try simp(etaStruct := .none)only[push_cast,zab,seval,LL,zaa _ _ _ hlt,zaz,ca,cb];try refine xsu ?_)
   (first|(refine zar rfl (Wk.of ?_);(try simp(etaStruct := .none)only[push_cast,zab,seval]);first|done|(simp[e, *];done)|(simp_all[e];done))|(refine zar rfl ?_;(try simp(etaStruct := .none)only[push_cast,zab,seval]);(try simp[e, *]);(try exact wkc)))
  ·have hc:0<k→k<L→zkm (zag f (l.getD k default))=true:=by
    intro k0 k1
    have mm:=MID k k0 (by omega)
    rw[←eL]at mm
    rcases h2 with (h|h)|h
    ·exact absurd h mm.1
    ·exact absurd h mm.2
    ·exact decide_eq_true h
   iterate 2(try simp(etaStruct := .none)only[push_cast,zab,seval,LL,zaa _ _ _ hlt,zaz,ca,cb];try refine xsu ?_)
   refine⟨k+1,⟨by omega,fun j h0 h1 hj=>by rcases Nat.lt_or_ge j k with h|h;exact hn j h0 h hj;rw[show j=k by omega]at hj ⊢;exact hc (by omega) hj⟩,by omega,To.mk [0,1,2] rfl rfl (by decide) ?_ ?_⟩
   ·(iterate 2((try simp(etaStruct := .none)only[push_cast,zab,seval,LL,zaa _ _ _ hlt,zaz,ca,cb]);(try(refine xsu ?_;try exact xtI))))
   ·(iterate 2((try simp(etaStruct := .none)only[push_cast,zab,seval,LL,zaa _ _ _ hlt,zaz,ca,cb]);(try(refine xsu ?_;try exact xtI))))
 ·have e:=LT (fun j h0 h1=>hn j h0 (by omega) h1)
  iterate 2(try simp(etaStruct := .none)only[push_cast,zab,seval,LL];try refine xsu ?_)
  (first|(refine zar rfl (Wk.of ?_);(try simp(etaStruct := .none)only[push_cast,zab,seval]);first|done|(simp[e, *];done)|(simp_all[e];done))|(refine zar rfl ?_;(try simp(etaStruct := .none)only[push_cast,zab,seval]);(try simp[e, *]);(try exact wkc)))
theorem ybl (f:Fld) (a b:Cel) (hf:zbp f=0) (ha:inF f a=true) (hb:inF f b=true):Spec Tryz.prog 183 [znh f,zem a,zem b] [] (B (zgg f a b)) []:=by
 refine spB Tryz.func183 17 [.tmp 6] Tryz.results183 ?_
 try refine xst ?_
 refine caP (zn4 f a b hf ha hb) ?_
 try refine xst ?_
 refine gcP (fun hcc=>zn4 f b a hf hb ha) ?_
 try refine xst ?_
 (first|(refine zar rfl (Wk.of ?_);(try simp(etaStruct := .none)only[push_cast,zab,seval]);first|done|(simp[zgg, *];done)|(simp_all[zgg];done))|(refine zar rfl ?_;(try simp(etaStruct := .none)only[push_cast,zab,seval]);(try simp[zgg, *]);(try exact wkc)))
theorem yjr (f:Fld) (c:Cel):(atV f c).2=if zbp f≠0 then zbp f else if inF f c then 0 else 7:=by
 unfold atV;split
 ·rfl
 ·split<;>rfl
theorem yky {f:Fld} {c:Cel} (h:(atV f c).2=0):zbp f=0∧inF f c=true:=by
 rw[yjr]at h
 split at h
 ·rename_i h1;exact absurd h h1
 ·rename_i h1
  split at h
  ·rename_i h2;exact⟨Decidable.not_not.1 h1,h2⟩
  ·simp at h
def zrf (f:Fld) (a b:Cel):Bool × Int:=if zbp f≠0 then (false,zbp f)else if inF f a&&inF f b then (zgg f a b,0)else (false,7)
theorem yd0 (f:Fld) (a b:Cel) (hl:f.p.length≤9223372036854775807):Spec Tryz.prog 164 [znh f,zem a,zem b] [] (.tup [B (zrf f a b).1,I .i64 (zrf f a b).2]) []:=by
 refine spB Tryz.func164 38 [.tmp 6,.tmp 7] Tryz.results164 ?_
 try refine xst ?_
 refine zas (fun k:Nat=>⟨[(15,I .i64 k),(14,.agg [I .i64 a.x,I .i64 a.y,I .i64 b.x,I .i64 b.y]),(5,.ptr 2 0 0),(4,.ptr 1 0 0),(3,.ptr 0 0 0)],[(0,.blk 24 [I .i64 f.w,I .i64 f.h,.c (.sl 1 (f.p.map zac))]),(1,.blk 41 [I .i64 a.x,I .i64 a.y]),(2,.blk 41 [I .i64 b.x,I .i64 b.y])],3⟩) (fun k:Nat=>k≤2∧(0<k→zbp f=0∧inF f a=true)∧(1<k→inF f b=true)) (fun k:Nat=>2-k) (0) (⟨by omega,fun h=>by omega,fun h=>by omega⟩) (To.mk [0,1,2] rfl rfl (by decide) ?_ ?_) ?_
 ·simp(etaStruct := .none)only[push_cast,zab,seval]
 ·simp(etaStruct := .none)only[push_cast,zab,seval]
 rintro k ⟨hk,q1,q2⟩
 try refine xst ?_
 refine cI (fun h1 => ?_) fun h1 => ?_
 ·obtain⟨c,hc1,hc2,hc3⟩:∃c:Cel,(k=0→c=a)∧(k=1→c=b)∧List.take 2 (List.drop (k*2) [AV.c (PV.v (.int .i64 a.x)),.c (.v (.int .i64 a.y)),.c (.v (.int .i64 b.x)),.c (.v (.int .i64 b.y))]) = [.c (.v (.int .i64 c.x)),.c (.v (.int .i64 c.y))]:=by
   rcases (show k=0∨k=1 by omega)with rfl|rfl
   ·exact⟨a,fun _=>rfl,fun h=>by omega,rfl⟩
   ·exact⟨b,fun h=>by omega,fun _=>rfl,rfl⟩
  try refine xz1 hc3 ?_
  refine caP (zzk f c hl) ?_
  try refine xz1 hc3 ?_
  refine cI (fun h2 => ?_) fun h2 => ?_
  ·have e2:=yjr f c
   have e3:zrf f a b=(false,(atV f c).2):=by
    unfold zrf
    by_cases hf:zbp f=0
    ·rw[if_neg (by simp[hf])]
     rw[if_neg (by simp[hf])]at e2
     cases hc:inF f c with
     | true=>rw[hc]at e2;exact absurd e2 h2
     | false =>
      rw[hc]at e2
      rw[e2]
      rcases (show k=0∨k=1 by omega)with h|h
      ·rw[←hc1 h,hc];rfl
      ·rw[←hc2 h,hc];simp
    ·rw[if_pos hf]at e2 ⊢;rw[e2]
   try refine xz1 hc3 ?_
   (first|(refine zar rfl (Wk.of ?_);(try simp(etaStruct := .none)only[push_cast,zab,seval]);first|done|(simp[e3, *];done)|(simp_all[e3];done))|(refine zar rfl ?_;(try simp(etaStruct := .none)only[push_cast,zab,seval]);(try simp[e3, *]);(try exact wkc)))
  ·obtain⟨a1,a2⟩:=yky h2
   try refine xz1 hc3 ?_
   refine⟨k+1,⟨by omega,fun _=>⟨a1,by rcases (show k=0∨k=1 by omega)with h|h;rw[←hc1 h];exact a2;exact(q1 (by omega)).2⟩,fun h=>by rw[←hc2 (by omega)];exact a2⟩,by omega,To.mk [0,1,2] rfl rfl (by decide) ?_ ?_⟩
   ·(try(refine xz1 hc3 ?_;try exact xtI))
   ·(try(refine xz1 hc3 ?_;try exact xtI))
 ·obtain⟨hf,ha⟩:=q1 (by omega)
  have hb:=q2 (by omega)
  have e4:zrf f a b=(zgg f a b,0):=by unfold zrf;rw[if_neg (by simp[hf]),if_pos (by simp[ha,hb])]
  try refine xst ?_
  refine caP (z9a f a b hf ha hb) ?_
  try refine xst ?_
  refine gcP (fun hcc=>z9a f b a hf hb ha) ?_
  try refine xst ?_
  (first|(refine zar rfl (Wk.of ?_);(try simp(etaStruct := .none)only[push_cast,zab,seval]);first|done|(simp[e4,zgg, *];done)|(simp_all[e4,zgg];done))|(refine zar rfl ?_;(try simp(etaStruct := .none)only[push_cast,zab,seval]);(try simp[e4,zgg, *]);(try exact wkc)))
end Go.Proofs.YtbapdgmcndgieaaGreat
namespace Go.Proofs.YtbapdgmcndgieaaGreat
set_option linter.all false
open Go.RowKit
set_option maxRecDepth 100000
def zyt (a b:Cel):Nat:=max (a.x-b.x).natAbs (a.y-b.y).natAbs
def zgj (w:Wld) (x y:Trp):Bool := !decide (x.owner=y.owner)&&decide ((zyt x.c y.c:Int)≤(zbh x.kind).blow)&&zgg w.f x.c y.c
def zkf (w:Wld) (b:Blw):Bool:=(zbx w b.by_).isSome&&(zbx w b.at_).isSome&&zgj w ((zbx w b.by_).getD zqx) ((zbx w b.at_).getD zqx)
def zhk (w:Wld) (t:Trp) (b:Blw):Bool:=decide (b.by_=t.id)&&zkf w b
def zm8 (w:Wld) (l:List Blw) (id:Int) (t:Trp):Int:=match l.find? (zhk w t)with|some b=>if b.at_=id then (zbh t.kind).load else 0|none=>0
def zqy (l:List Int):Int:=l.sum
theorem z0c (l:List Int) (x:Int):zqy (l ++ [x])=zqy l+x:=by unfold zqy;simp
theorem zvq:∀(l:List Int) (i:Nat) (v:Int),i<l.length→zqy (l.set i v)=zqy l-l.getD i default+v
 | [],i,v,h=>by simp at h
 | a::r,0,v,_=>by simp[zqy];omega
 | a::r,i+1,v,h=>by
  have:=zvq r i v (by simpa using h)
  simp only[zqy,List.set_cons_succ,List.sum_cons,List.getD_cons_succ]at this ⊢
  omega
def ze5 (w:Wld) (l:List Blw) (id:Int):Int:=zqy (w.troops.map (zm8 w l id))
def Ups (w:Wld):Prop:=∀i j,i<j→j<w.troops.length→(w.troops.getD i default).id<(w.troops.getD j default).id
theorem ydm {w:Wld} (h:zah w=0):Ups w:=by
 intro i j hij hj
 have h2:=(ze8 h hj).2
 unfold z4h at h2
 have:=(zbo _ _).1 h2 i hij
 simp only[Bool.and_eq_true,decide_eq_true_eq]at this
 exact this.1
theorem Ups.ne {w:Wld} (h:Ups w) {i j:Nat} (hi:i<w.troops.length) (hj:j<w.troops.length) (hne:i≠j):(w.troops.getD i default).id≠(w.troops.getD j default).id:=by
 rcases Nat.lt_or_gt_of_ne hne with h1|h1
 ·have:=h i j h1 hj;omega
 ·have:=h j i h1 hi;omega
theorem zoe {w:Wld} {n:Int} (h:(zbx w n).isSome=true):∃i,i<w.troops.length∧(w.troops.getD i default).id=n∧(zbx w n).getD zqx=w.troops.getD i default:=by
 unfold zbx at *
 obtain⟨t,ht⟩:=Option.isSome_iff_exists.1 h
 have hm:=List.mem_of_find?_eq_some ht
 have hp:=List.find?_some ht
 obtain⟨i,hi,e⟩:=mem_getD.1 hm
 refine⟨i,hi,by rw[e];simpa using hp,by rw[ht,e];rfl⟩
theorem zsn (w:Wld) (l:List Blw) (b:Blw) (id:Int) (t:Trp):zm8 w (l ++ [b]) id t=if l.any (zhk w t)=false∧zhk w t b=true then (if b.at_=id then (zbh t.kind).load else 0)else zm8 w l id t:=by
 unfold zm8
 rw[List.find?_append]
 cases h:l.find? (zhk w t)with
 | some x =>
  have hx:=List.find?_some h
  have hm:=List.mem_of_find?_eq_some h
  have:l.any (zhk w t)=true:=List.any_eq_true.2 ⟨x,hm,hx⟩
  rw[if_neg (by simp[this])];rfl
 | none =>
  have:l.any (zhk w t)=false:=by rw[List.any_eq_false];intro x hx;exact List.find?_eq_none.1 h x hx
  rw[this]
  cases hp:zhk w t b with
  | true=>simp[hp]
  | false=>simp[hp]
theorem z2s (w:Wld) (l:List Blw) (id:Int) (t:Trp) (h:l.any (zhk w t)=false):zm8 w l id t=0:=by
 unfold zm8
 rw[List.find?_eq_none.2 (fun x hx=>by have:=List.any_eq_false.1 h x hx;simpa using this)]
theorem z2x {w:Wld} (hu:Ups w) (l:List Blw) (b:Blw) (id:Int) (h:zkf w b=false∨∃i,i<w.troops.length∧(w.troops.getD i default).id=b.by_∧l.any (zhk w (w.troops.getD i default))=true):ze5 w (l ++ [b]) id=ze5 w l id:=by
 unfold ze5
 congr 1
 refine List.map_congr_left fun t ht => ?_
 rw[zsn,if_neg]
 rintro⟨h1,h2⟩
 rcases h with h|⟨i,hi,e,h3⟩
 ·unfold zhk at h2;rw[h]at h2;simp at h2
 ·obtain⟨j,hj,rfl⟩:=mem_getD.1 ht
  by_cases hij:i=j
  ·subst hij;rw[h3]at h1;simp at h1
  ·have:=hu.ne hi hj hij
   unfold zhk at h2
   simp only[Bool.and_eq_true,decide_eq_true_eq]at h2
   omega
theorem z2w {w:Wld} (hu:Ups w) (l:List Blw) (b:Blw) (id:Int) (hb:zkf w b=true) {i:Nat} (hi:i<w.troops.length) (hid:(w.troops.getD i default).id=b.by_) (hn:l.any (zhk w (w.troops.getD i default))=false) :
 ze5 w (l ++ [b]) id=ze5 w l id+(if b.at_=id then (zbh (w.troops.getD i default).kind).load else 0):=by
 have e:w.troops.map (zm8 w (l ++ [b]) id)=(w.troops.map (zm8 w l id)).set i (if b.at_=id then (zbh (w.troops.getD i default).kind).load else 0):=by
  refine List.ext_getElem (by simp) fun j h1 h2 => ?_
  rw[List.length_map]at h1
  rw[List.getElem_map,List.getElem_set,zsn,←zad _ _ h1]
  by_cases hij:i=j
  ·subst hij
   rw[if_pos rfl,if_pos ⟨hn,by unfold zhk;rw[hb,hid];simp⟩]
  ·have:=hu.ne hi h1 hij
   rw[if_neg hij,if_neg,List.getElem_map,←zad _ _ h1]
   rintro⟨_,h3⟩
   unfold zhk at h3
   simp only[Bool.and_eq_true,decide_eq_true_eq]at h3
   omega
 unfold ze5
 rw[e,zvq _ _ _ (by simpa using hi)]
 have:(w.troops.map (zm8 w l id)).getD i default=0:=by
  rw[zad _ _ (by simpa using hi),List.getElem_map,←zad _ _ hi]
  exact z2s _ _ _ _ hn
 omega
theorem zp5 (w:Wld) (id:Int):ze5 w [] id=0:=by
 unfold ze5 zqy
 induction w.troops with
 | nil=>rfl
 | cons a r ih=>rw[List.map_cons,List.sum_cons,ih];rfl
theorem z2g {α : Type} [Inhabited α] (p : α → Bool) (l:List α):(∃i:Nat,i<l.length∧ze4 p l=(i:Int)∧l.find? p=some (l.getD i default))∨(ze4 p l = -1∧l.find? p=none):=by
 unfold ze4
 cases h:l.findIdx? p with
 | none =>
  refine .inr ⟨rfl,?_⟩
  rw[List.find?_eq_none]
  intro x hx
  have:=List.findIdx?_eq_none_iff.1 h x hx
  simp[this]
 | some i =>
  obtain⟨hi,h1,h2⟩:=List.findIdx?_eq_some_iff_getElem.1 h
  refine .inl ⟨i,hi,rfl,zjh p l i hi (by rw[zad _ _ hi];exact h1) (fun j hj => ?_)⟩
  rw[zad _ _ (by omega)]
  have:=h2 j hj
  simpa using this
def zp6 (w:Wld) (l:List Blw):List Int:=w.troops.map fun t=>ze5 w l t.id
def zby (w:Wld) (l:List Blw):Int:=if zah w≠0 then zah w else if 200<l.length then 2 else 0
def zih (w:Wld) (l:List Blw):List Int:=if zby w l=0 then zp6 w l else []
def zdi (w:Wld) (l:List Blw) (t:Trp):Trp:={ t with life:=t.life-ze5 w l t.id }
def zi8 (w:Wld) (l:List Blw):List Trp:=(w.troops.map (zdi w l)).filter fun t=>decide (0<t.life)
def zyx (w:Wld) (l:List Blw):List Int:=((w.troops.map (zdi w l)).filter fun t => !decide (0<t.life)).map (·.id)
def zc3 (w:Wld) (l:List Blw):Wld:={ w with troops:=zi8 w l }
end Go.Proofs.YtbapdgmcndgieaaGreat
namespace Go.Proofs.YtbapdgmcndgieaaGreat
set_option linter.all false
open Go.RowKit
set_option maxRecDepth 100000
set_option maxHeartbeats 400000
theorem zpx (a b:Cel):(if (b.x-a.x).natAbs<(b.y-a.y).natAbs then ((b.y-a.y).natAbs:Int)else ((b.x-a.x).natAbs:Int))=(zyt a b:Int):=by
 unfold zyt;split<;>omega
theorem zpv (a b:Cel) (ha:zd0 a=true) (hb:zd0 b=true):Spec Tryz.prog 163 [zem a,zem b] [] (.tup [I .i64 (zyt a b:Nat),I .i64 (((b.x-a.x).natAbs+(b.y-a.y).natAbs:Nat):Int),I .i64 0]) []:=by
 have ha1:=ha
 have hb1:=hb
 unfold zd0 at ha1 hb1
 rw[decide_eq_true_eq]at ha1 hb1
 refine spB Tryz.func163 43 [.tmp 4,.tmp 5,.tmp 6] Tryz.results163 ?_
 try refine xst ?_
 refine caP (zwl a ⟨by omega,by omega⟩ ⟨by omega,by omega⟩) ?_
 try refine xst ?_
 refine gcP (fun hcc=>zwl b ⟨by omega,by omega⟩ ⟨by omega,by omega⟩) ?_
 try refine xst ?_
 refine cI (fun h1 => ?_) fun h1 => ?_
 ·rw[ha,hb]at h1;simp at h1
 ·try refine xst ?_
  refine caP (zvu (b.x-a.x) ⟨by omega,by omega⟩ (by omega)) ?_
  try refine xst ?_
  refine caP (zvu (b.y-a.y) ⟨by omega,by omega⟩ (by omega)) ?_
  try refine xst ?_
  (first|(refine zar rfl (Wk.of ?_);(try simp(etaStruct := .none)only[push_cast,zab,seval]);first|done|(simp[zpx, *];done)|(simp_all[zpx];done))|(refine zar rfl ?_;(try simp(etaStruct := .none)only[push_cast,zab,seval]);(try simp[zpx, *]);(try exact wkc)))
theorem z40 {f:Fld} {a b:Cel} (hf:zbp f=0) (ha:inF f a=true) (hb:inF f b=true):zrf f a b=(zgg f a b,0):=by
 unfold zrf;rw[if_neg (by simp[hf]),if_pos (by simp[ha,hb])]
theorem zwm {f:Fld} {c:Cel} (hf:zbp f=0) (h:inF f c=true):zd0 c=true:=by
 have h1:=inF_iff.1 h
 obtain⟨h2,h3,_⟩:=zba hf
 unfold zd0
 rw[decide_eq_true_eq];omega
theorem z63 (w:Wld) (x y:Trp) (hl:zdf w) (hw:zah w=0) (hx:x∈w.troops) (hy:y∈w.troops):Spec Tryz.prog 128 [zbk w,z38 x,z38 y] [] (B (zgj w x y)) []:=by
 obtain⟨hf,_⟩:=zcb hw
 have ox:=zfk hw hx
 have oy:=zfk hw hy
 have ix:=(ground_iff.1 ox.at_).1
 have iy:=(ground_iff.1 oy.at_).1
 have es:=z40 hf ix iy
 refine spB Tryz.func128 51 [.tmp 6] Tryz.results128 ?_
 try refine xst ?_
 refine caP (zh4 x.kind) ?_
 try refine xst ?_
 refine caP (zpv x.c y.c (zwm hf ix) (zwm hf iy)) ?_
 try refine xst ?_
 refine cI (fun h1 => ?_) fun h1 => ?_
 ·have e:zgj w x y=false:=by
   unfold zgj
   rcases h1 with h|h
   ·simp[h]
   ·simp only[Bool.and_eq_false_iff];exact .inl (.inr (by simpa using h))
  try refine xst ?_
  (first|(refine zar rfl (Wk.of ?_);(try simp(etaStruct := .none)only[push_cast,zab,seval]);first|done|(simp[e, *];done)|(simp_all[e];done))|(refine zar rfl ?_;(try simp(etaStruct := .none)only[push_cast,zab,seval]);(try simp[e, *]);(try exact wkc)))
 ·have e:zgj w x y=zgg w.f x.c y.c:=by
   unfold zgj
   rw[decide_eq_false h1.1,decide_eq_true h1.2];simp
  try refine xst ?_
  refine caP (yd0 w.f x.c y.c hl.1) ?_
  try refine xst ?_
  rw[es]
  (first|(refine zar rfl (Wk.of ?_);(try simp(etaStruct := .none)only[push_cast,zab,seval]);first|done|(simp[e, *];done)|(simp_all[e];done))|(refine zar rfl ?_;(try simp(etaStruct := .none)only[push_cast,zab,seval]);(try simp[e, *]);(try exact wkc)))
def IdxM (w:Wld) (k:Nat) (es:List (List Int × Int)):Prop:=(∀i:Int,zmf [i] es=(w.troops.take k).any fun t=>decide (t.id=i))∧∀j,j<k→zdk [(w.troops.getD j default).id] es=(j:Int)
theorem IdxM.step {w:Wld} (hu:Ups w) {k:Nat} {es:List (List Int × Int)} (h:IdxM w k es) (hk:k<w.troops.length):IdxM w (k+1) (zhe [(w.troops.getD k default).id] (k:Int) es):=by
 refine⟨fun i => ?_,fun j hj => ?_⟩
 ·rw[zme,zav _ _ hk,List.any_append,h.1 i]
  simp only[List.any_cons,List.any_nil,Bool.or_false,List.cons.injEq,and_true]
  by_cases hi:i=(w.troops.getD k default).id
  ·rw[if_pos hi,decide_eq_true hi.symm,Bool.or_true]
  ·rw[if_neg hi,decide_eq_false (Ne.symm hi),Bool.or_false]
 ·rw[zcq]
  by_cases hjk:j=k
  ·subst hjk;rw[if_pos rfl]
  ·have:=hu j k (by omega) hk
   rw[if_neg (fun h=>by have:=(List.cons.inj h).1;omega)]
   exact h.2 j (by omega)
theorem z14 {k:List Int} {es:List (List Int × Int)} (h:zmf k es=false):zdk k es=0:=by
 unfold zmf at h;unfold zdk
 cases hm:zc0 k 0 es with
 | none=>rfl
 | some p=>rw[hm]at h;simp at h
theorem IdxM.get {w:Wld} {es:List (List Int × Int)} (h:IdxM w w.troops.length es) (hpos:0<w.troops.length) (a:Int):∃i:Nat,i<w.troops.length∧zdk [a] es=(i:Int)∧zmf [a] es=(zbx w a).isSome∧((zbx w a).isSome=true→(w.troops.getD i default).id=a∧(zbx w a).getD zqx=w.troops.getD i default):=by
 have h1:=h.1 a
 rw[List.take_length]at h1
 cases hf:zbx w a with
 | none =>
  have e:zmf [a] es=false:=by
   rw[h1,List.any_eq_false]
   intro x hx
   have:=List.find?_eq_none.1 hf x hx
   simpa using this
  exact⟨0,hpos,z14 e,e,fun h=>by simp at h⟩
 | some t =>
  obtain⟨i,hi,e1,e2⟩:=zoe (w:=w) (n:=a) (by rw[hf];rfl)
  refine⟨i,hi,?_,?_,fun _=>⟨e1,by rw[←hf];exact e2⟩⟩
  ·rw[←e1];exact h.2 i hi
  ·rw[h1,List.any_eq_true.2 ⟨w.troops.getD i default,za9 _ _ hi,by simpa using e1⟩];rfl
theorem zja (k:Int):0≤(zbh k).load∧(zbh k).load≤4:=by unfold zbh;split<;>(try split)<;>simp
theorem z6o {w:Wld} {l:List Blw} {harm:List Int} (hl:harm.length=w.troops.length) (h:∀j,j<w.troops.length→harm.getD j default=ze5 w l (w.troops.getD j default).id):harm=zp6 w l:=by
 refine List.ext_getElem (by unfold zp6;rw[List.length_map];exact hl) fun j h1 h2 => ?_
 have:=h j (by omega)
 rw[zad _ _ h1,zad _ _ (by omega)]at this
 simp only[zp6,List.getElem_map];exact this
theorem yh7 {l:List Bool} {i:Nat} (v:Bool) (p:Nat) (hi:i<l.length):(l.set i v).getD p default=if p=i then v else l.getD p default:=by
 by_cases h:p=i
 ·subst h;rw[if_pos rfl,zad _ _ (by simpa using hi)];simp
 ·rw[if_neg h]
  simp only[List.getD_eq_getElem?_getD,List.getElem?_set,if_neg (Ne.symm h)]
theorem ydz {l:List Int} {i:Nat} (v:Int) (p:Nat) (hi:i<l.length):(l.set i v).getD p default=if p=i then v else l.getD p default:=by
 by_cases h:p=i
 ·subst h;rw[if_pos rfl,zad _ _ (by simpa using hi)];simp
 ·rw[if_neg h]
  simp only[List.getD_eq_getElem?_getD,List.getElem?_set,if_neg (Ne.symm h)]
theorem ycu (w:Wld) (l:List Blw) (hl:zdf w) (hll:l.length≤9223372036854775807) (h:zby w l≠0):Spec Tryz.prog 94 [zbk w,.c (.sl 2 (l.map zea))] [] (.tup [.c (.sl 1 ((zih w l).map zac)),I .i64 (zby w l)]) []:=by
 have e2:zih w l = []:=by unfold zih;rw[if_neg h]
 refine spB Tryz.func94 120 [.tmp 4,.tmp 5] Tryz.results94 ?_
 try refine xst ?_
 refine caP (ze9 w hl) ?_
 try refine xst ?_
 refine cI (fun h1 => ?_) fun h1 => ?_
 ·have e:zby w l=zah w:=by unfold zby;rw[if_pos h1]
  try refine xst ?_
  (first|(refine zar rfl (Wk.of ?_);(try simp(etaStruct := .none)only[push_cast,zab,seval]);first|done|(simp[e,e2, *];done)|(simp_all[e,e2];done))|(refine zar rfl ?_;(try simp(etaStruct := .none)only[push_cast,zab,seval]);(try simp[e,e2, *]);(try exact wkc)))
 ·try refine xst ?_
  refine cI (fun h2 => ?_) fun h2 => ?_
  ·have e:zby w l=2:=by unfold zby;rw[if_neg (by simpa using h1),if_pos (by omega)]
   try refine xst ?_
   (first|(refine zar rfl (Wk.of ?_);(try simp(etaStruct := .none)only[push_cast,zab,seval]);first|done|(simp[e,e2, *];done)|(simp_all[e,e2];done))|(refine zar rfl ?_;(try simp(etaStruct := .none)only[push_cast,zab,seval]);(try simp[e,e2, *]);(try exact wkc)))
  ·exact absurd (by unfold zby;rw[if_neg (by simpa using h1),if_neg (by omega)]) h
end Go.Proofs.YtbapdgmcndgieaaGreat
namespace Go.Proofs.YtbapdgmcndgieaaGreat
set_option linter.all false
open Go.RowKit
set_option maxRecDepth 100000
set_option maxHeartbeats 1000000
def zci (x:Nod):List PV := [pI x.c.x,pI x.c.y,pI x.far,pI x.all]
theorem zr2 (x:Nod):zci x = [pI x.c.x,pI x.c.y,pI x.far,pI x.all]:=rfl
abbrev yc8 (x:Nod):AV := .agg [I .i64 x.c.x,I .i64 x.c.y,I .i64 x.far,I .i64 x.all]
theorem zr0 (l:List Nod):Spec Tryz.prog 208 [.c (.sl 4 (l.map zci))] [] (I .i64 l.length) []:=by
 refine spB Tryz.func208 5 [.tmp 2] Tryz.results208 ?_
 try refine xst ?_
 exact xrz rfl
theorem zph (l:List Nod) (i j:Nat) (hi:i<l.length) (hj:j<l.length):Spec Tryz.prog 233 [.c (.sl 4 (l.map zci)),I .i64 i,I .i64 j] [] (B (decide ((l.getD i default).all<(l.getD j default).all))) []:=by
 refine spB Tryz.func233 18 [.tmp 6] Tryz.results233 ?_
 try refine xz3 (gd hi) (gd hj) zr2 ?_
 (try(refine⟨by kernel_rfl,?_⟩))
 try refine xz3 (gd hi) (gd hj) zr2 ?_
 exact xrz rfl
theorem zpg (l:List Nod) (i j:Nat) (hi:i<l.length) (hj:j<l.length):Spec Tryz.prog 234 [.own 0,I .i64 i,I .i64 j] [.row 281 4 (l.map zci)] (.tup []) [.row 281 4 ((zdp l i j).map zci)]:=by
 have hj2:j<(l.set i (l.getD j default)).length:=by rw[List.length_set];exact hj
 refine spB Tryz.func234 20 [] Tryz.results234 ?_
 try refine xz3 (gd hi) (gd hj) zr2 ?_
 (try(refine⟨by kernel_rfl,?_⟩))
 try refine xz3 (gd hi) (gd hj) zr2 ?_
 refine zco [0] rfl rfl (by decide) ⟨?_,trivial⟩ trivial ?_<;>simp(etaStruct := .none)only[push_cast,zab,seval,zdp,←List.map_set,List.length_map,List.map_set,zci]
theorem z5n (f:Fld) (b:Cel) (far:List Int)(l:List Nod) (x:Nod) (hl:l.length≤1000000):Spec Tryz.prog 236 [.ptr 0 0 6,.ifc 281 (yc8 x)] [.blk 265 [I .i64 f.w,I .i64 f.h,.c (.sl 1 (f.p.map zac)),I .i64 b.x,I .i64 b.y,.own 1,.own 2],.row 3 1 (far.map zac),.row 281 4 (l.map zci)] (.tup []) [.blk 265 [I .i64 f.w,I .i64 f.h,.c (.sl 1 (f.p.map zac)),I .i64 b.x,I .i64 b.y,.own 1,.own 3],.row 3 1 (far.map zac),.dead,.row 281 4 ((l ++ [x]).map zci)]:=by
 refine spB Tryz.func236 13 [] Tryz.results236 ?_
 try refine xst ?_
 (try(refine⟨by kernel_rfl,?_⟩))
 try refine xst ?_
 refine zco [0,1,2,31] rfl rfl (by decide) ⟨?_,?_,?_,?_,trivial⟩ trivial ?_<;>simp(etaStruct := .none)only[push_cast,zab,seval,List.map_append,zci]
theorem yav (f:Fld) (b:Cel) (far:List Int)(l:List Nod) (n:Nat) (hn:l.length=n+1) (hl:l.length≤1000001):Spec Tryz.prog 235 [.ptr 0 0 6] [.blk 265 [I .i64 f.w,I .i64 f.h,.c (.sl 1 (f.p.map zac)),I .i64 b.x,I .i64 b.y,.own 1,.own 2],.row 3 1 (far.map zac),.row 281 4 (l.map zci)] (.ifc 281 (yc8 (l.getD n default))) [.blk 265 [I .i64 f.w,I .i64 f.h,.c (.sl 1 (f.p.map zac)),I .i64 b.x,I .i64 b.y,.own 1,.own 3],.row 3 1 (far.map zac),.dead,.row 281 4 ((l.take n).map zci)]:=by
 have hlt:n<l.length:=by omega
 have e1:IntKind.i64.wrap ((l.length:Int)-1)=(n:Int):=by rw[zaq _ (by omega) (by omega)];omega
 refine spB Tryz.func235 23 [.tmp 2] Tryz.results235 ?_
 try refine xz3 e1 (gd hlt) zr2 ?_
 refine znc (To.cutC 0 6 2 n 281 4 265 _ (l.map zci) rfl rfl rfl (by rw[List.length_map];omega)) ?_
 refine zco [0,1,2,4] rfl rfl (by decide) ⟨?_,?_,?_,?_,trivial⟩ trivial ?_<;>simp(etaStruct := .none)only[push_cast,zab,seval,List.map_take,List.set_cons_zero,List.set_cons_succ]
theorem yel (f:Fld) (b:Cel) (far:List Int)(l:List Nod) (j:Nat) (hj:j<l.length) (hl:l.length≤1000001):Spec Tryz.prog 213 [.ifc 279 (.ptr 0 0 6),I .i64 j] [.blk 265 [I .i64 f.w,I .i64 f.h,.c (.sl 1 (f.p.map zac)),I .i64 b.x,I .i64 b.y,.own 1,.own 2],.row 3 1 (far.map zac),.row 281 4 (l.map zci)] (.tup []) [.blk 265 [I .i64 f.w,I .i64 f.h,.c (.sl 1 (f.p.map zac)),I .i64 b.x,I .i64 b.y,.own 1,.own 2],.row 3 1 (far.map zac),.row 281 4 ((hup Nod.all l j).map zci)]:=by
 refine spB Tryz.func213 23 [] Tryz.results213 ?_
 try refine xz1 zfb ?_
 refine zas (fun x:List Nod × Nat=>⟨[(1,I .i64 x.2),(0,.ifc 279 (.ptr 0 0 6))],[(0,.blk 265 [I .i64 f.w,I .i64 f.h,.c (.sl 1 (f.p.map zac)),I .i64 b.x,I .i64 b.y,.own 1,.own 2]),(1,.row 3 1 (far.map zac)),(2,.row 281 4 (x.1.map zci))],3⟩) (fun x:List Nod × Nat=>x.2<x.1.length∧x.1.length≤1000001∧hup Nod.all x.1 x.2=hup Nod.all l j) (fun x:List Nod × Nat=>x.2) ((l,j)) (⟨hj,hl,rfl⟩) (To.mk [0,1,2] rfl rfl (by decide) ?_ ?_) ?_
 ·simp(etaStruct := .none)only[push_cast,zab,seval]
 ·simp(etaStruct := .none)only[push_cast,zab,seval]
 rintro⟨m,i⟩ ⟨hi,hm,hu⟩
 simp only at hi hm hu
 have lp:par i≤i:=by simp only[par];omega
 have hp:par i<m.length:=by omega
 try refine xz1 zfb ?_
 refine zg2 (fun hcc=>zph m i (par i) hi hp) (WkL.refl _) rfl (by intro hc;(try simp(etaStruct := .none)only[push_cast,zab,seval]);(try simp_all)) ?_
 try refine xz1 zfb ?_
 refine cI (fun h1 => ?_) fun h1 => ?_
 ·have e:hup Nod.all m i=m:=by
   rw[hup,if_pos]
   rcases h1 with h|h
   ·exact .inl (by omega)
   ·exact .inr (by omega)
  rw[←hu,e]
  try refine xz1 zfb ?_
  refine zco [0,1,2] rfl rfl (by decide) ⟨?_,?_,?_,trivial⟩ trivial ?_<;>simp(etaStruct := .none)only[push_cast,zab,seval]
 ·have e:hup Nod.all m i=hup Nod.all (zdp m (par i) i) (par i):=by rw[hup,if_neg];rintro (h|h)<;>omega
  have lt:par i<i:=by omega
  try refine xz1 zfb ?_
  refine caM [2] (zpg m (par i) i hp hi) ?_
  try refine xz1 zfb ?_
  refine⟨(zdp m (par i) i,par i),⟨by rw[za3];exact hp,by rw[za3];exact hm,by rw[←hu,e]⟩,lt,To.mk [0,1,2] rfl rfl (by decide) ?_ ?_⟩
  ·(try(refine xz1 zfb ?_;try exact xtI))
  ·(try(refine xz1 zfb ?_;try exact xtI))
theorem z5q (f:Fld) (b:Cel) (far:List Int)(l:List Nod) (x:Nod) (hl:l.length≤1000000):Spec Tryz.prog 207 [.ifc 279 (.ptr 0 0 6),.ifc 281 (yc8 x)] [.blk 265 [I .i64 f.w,I .i64 f.h,.c (.sl 1 (f.p.map zac)),I .i64 b.x,I .i64 b.y,.own 1,.own 2],.row 3 1 (far.map zac),.row 281 4 (l.map zci)] (.tup []) [.blk 265 [I .i64 f.w,I .i64 f.h,.c (.sl 1 (f.p.map zac)),I .i64 b.x,I .i64 b.y,.own 1,.own 3],.row 3 1 (far.map zac),.dead,.row 281 4 ((zed Nod.all l x).map zci)]:=by
 have hlen:(l ++ [x]).length=l.length+1:=by simp
 have e1:IntKind.i64.wrap (((l ++ [x]).length:Int)-1)=(l.length:Int):=by rw[zaq _ (by omega) (by omega)];omega
 refine spB Tryz.func207 12 [] Tryz.results207 ?_
 try refine xz1 e1 ?_
 refine caM [0,1,2] (z5n f b far l x hl) ?_
 try refine xz1 e1 ?_
 refine zbv (zr0 (l ++ [x])) (WkL.refl _) rfl ?_
 try refine xz1 e1 ?_
 refine caM [0,1,3] (yel f b far (l ++ [x]) l.length (by omega) (by omega)) ?_
 try refine xz1 e1 ?_
 refine zco [0,1,2,3] rfl rfl (by decide) ⟨?_,?_,?_,?_,trivial⟩ trivial ?_<;>simp(etaStruct := .none)only[push_cast,zab,seval,zed]
theorem ya6 (f:Fld) (b:Cel) (far:List Int)(l:List Nod) (n:Nat) (hn:n≤l.length) (hl:l.length≤1000001):Spec Tryz.prog 214 [.ifc 279 (.ptr 0 0 6),I .i64 0,I .i64 n] [.blk 265 [I .i64 f.w,I .i64 f.h,.c (.sl 1 (f.p.map zac)),I .i64 b.x,I .i64 b.y,.own 1,.own 2],.row 3 1 (far.map zac),.row 281 4 (l.map zci)] .undef [.blk 265 [I .i64 f.w,I .i64 f.h,.c (.sl 1 (f.p.map zac)),I .i64 b.x,I .i64 b.y,.own 1,.own 2],.row 3 1 (far.map zac),.row 281 4 ((hdn Nod.all l 0 n).map zci)]:=by
 refine spB Tryz.func214 48 [.tmp 6] Tryz.results214 ?_
 try refine xst ?_
 refine zas (fun x:List Nod × Nat=>⟨[(7,I .i64 x.2),(2,I .i64 n),(1,I .i64 0),(0,.ifc 279 (.ptr 0 0 6))],[(0,.blk 265 [I .i64 f.w,I .i64 f.h,.c (.sl 1 (f.p.map zac)),I .i64 b.x,I .i64 b.y,.own 1,.own 2]),(1,.row 3 1 (far.map zac)),(2,.row 281 4 (x.1.map zci))],3⟩) (fun x:List Nod × Nat=>x.2≤n∧n≤x.1.length∧x.1.length≤1000001∧hdn Nod.all x.1 x.2 n=hdn Nod.all l 0 n) (fun x:List Nod × Nat=>n-x.2) ((l,0)) (⟨Nat.zero_le _,hn,hl,rfl⟩) (To.mk [0,1,2] rfl rfl (by decide) ?_ ?_) ?_
 ·simp(etaStruct := .none)only[push_cast,zab,seval]
 ·simp(etaStruct := .none)only[push_cast,zab,seval]
 rintro⟨m,i⟩ ⟨hi,hm,hm2,hu⟩
 simp only at hi hm hm2 hu
 obtain⟨a,ha⟩:∃a:Nat,a=2*i+1:=⟨_,rfl⟩
 obtain⟨b,hb⟩:∃b:Nat,b=2*i+2:=⟨_,rfl⟩
 have e1:IntKind.i64.wrap (IntKind.i64.wrap (2*(i:Int))+1)=(a:Int):=by rw[zaq (2*_) (by omega) (by omega),zaq _ (by omega) (by omega)];omega
 have e2:IntKind.i64.wrap ((a:Int)+1)=(b:Int):=by rw[zaq _ (by omega) (by omega)];omega
 simp(etaStruct := .none)only[push_cast,zab,seval,e1,e2]
 try refine xst ?_
 refine cI (fun h1 => ?_) fun h1 => ?_
 ·have e:hdn Nod.all m i n=m:=by rw[hdn,if_pos];exact .inl (by omega)
  rw[←hu,e]
  try refine xst ?_
  refine zco [0,1,2] rfl rfl (by decide) ⟨?_,?_,?_,trivial⟩ trivial (Wk.undef _)<;>simp(etaStruct := .none)only[push_cast,zab,seval]
 ·try refine xz2 e1 e2 ?_
  refine zg2 (fun hcc=>zph m b a (by simp only[decide_eq_true_eq]at hcc;omega) (by omega)) (WkL.refl _) rfl (by intro hc;(try simp(etaStruct := .none)only[push_cast,zab,seval]);(try simp_all)) ?_
  try refine xz2 e1 e2 ?_
  refine cI (fun h2 => ?_) fun h2 => ?_
  ·have ek:kid Nod.all m i n=b:=by unfold kid;rw[←ha,←hb,if_pos ⟨by omega,h2.2⟩]
   try refine xz2 e1 e2 ?_
   refine zbv (zph m b i (by omega) (by omega)) (WkL.refl _) rfl ?_
   try refine xz2 e1 e2 ?_
   refine cI (fun h3 => ?_) fun h3 => ?_
   ·have e:hdn Nod.all m i n=m:=by rw[hdn,if_pos];rw[ek];exact .inr (by omega)
    rw[←hu,e]
    try refine xz2 e1 e2 ?_
    refine zco [0,1,2] rfl rfl (by decide) ⟨?_,?_,?_,trivial⟩ trivial (Wk.undef _)<;>simp(etaStruct := .none)only[push_cast,zab,seval]
   ·have e:hdn Nod.all m i n=hdn Nod.all (zdp m i b) b n:=by rw[hdn,if_neg,ek];rw[ek];rintro (h|h)<;>omega
    try refine xz2 e1 e2 ?_
    refine caM [2] (zpg m i b (by omega) (by omega)) ?_
    try refine xz2 e1 e2 ?_
    refine⟨(zdp m i b,b),⟨by simp only;omega,by rw[za3];exact hm,by rw[za3];exact hm2,by rw[←hu,e]⟩,by simp only;omega,To.mk [0,1,2] rfl rfl (by decide) ?_ ?_⟩
    ·(try(refine xz2 e1 e2 ?_;try exact xtI))
    ·(try(refine xz2 e1 e2 ?_;try exact xtI))
  ·have ek:kid Nod.all m i n=a:=by unfold kid;rw[←ha,←hb,if_neg (fun h=>by have:=h.1;have:=h.2;omega)]
   try refine xz2 e1 e2 ?_
   refine zbv (zph m a i (by omega) (by omega)) (WkL.refl _) rfl ?_
   try refine xz2 e1 e2 ?_
   refine cI (fun h4 => ?_) fun h4 => ?_
   ·have e:hdn Nod.all m i n=m:=by rw[hdn,if_pos];rw[ek];exact .inr (by omega)
    rw[←hu,e]
    try refine xz2 e1 e2 ?_
    refine zco [0,1,2] rfl rfl (by decide) ⟨?_,?_,?_,trivial⟩ trivial (Wk.undef _)<;>simp(etaStruct := .none)only[push_cast,zab,seval]
   ·have e:hdn Nod.all m i n=hdn Nod.all (zdp m i a) a n:=by rw[hdn,if_neg,ek];rw[ek];rintro (h|h)<;>omega
    try refine xz2 e1 e2 ?_
    refine caM [2] (zpg m i a (by omega) (by omega)) ?_
    try refine xz2 e1 e2 ?_
    refine⟨(zdp m i a,a),⟨by simp only;omega,by rw[za3];exact hm,by rw[za3];exact hm2,by rw[←hu,e]⟩,by simp only;omega,To.mk [0,1,2] rfl rfl (by decide) ?_ ?_⟩
    ·(try(refine xz2 e1 e2 ?_;try exact xtI))
    ·(try(refine xz2 e1 e2 ?_;try exact xtI))
theorem ya5 (f:Fld) (b:Cel) (far:List Int)(l:List Nod) (h0:0<l.length) (hl:l.length≤1000001):Spec Tryz.prog 209 [.ifc 279 (.ptr 0 0 6)] [.blk 265 [I .i64 f.w,I .i64 f.h,.c (.sl 1 (f.p.map zac)),I .i64 b.x,I .i64 b.y,.own 1,.own 2],.row 3 1 (far.map zac),.row 281 4 (l.map zci)] (.ifc 281 (yc8 (l.getD 0 default))) [.blk 265 [I .i64 f.w,I .i64 f.h,.c (.sl 1 (f.p.map zac)),I .i64 b.x,I .i64 b.y,.own 1,.own 3],.row 3 1 (far.map zac),.dead,.row 281 4 ((zgi Nod.all l).map zci)]:=by
 obtain⟨n,hn⟩:∃n,l.length=n+1:=⟨l.length-1,by omega⟩
 have e1:IntKind.i64.wrap ((l.length:Int)-1)=(n:Int):=by rw[zaq _ (by omega) (by omega)];omega
 have e2:=zsm Nod.all l h0
 have e3:zgi Nod.all l=(hdn Nod.all (zdp l 0 n) 0 n).take n:=by unfold zgi;rw[hn];rfl
 rw[hn,Nat.add_sub_cancel]at e2
 rw[←e2,e3]
 refine spB Tryz.func209 15 [.tmp 2] Tryz.results209 ?_
 try refine xz1 e1 ?_
 refine zbv (zr0 l) (WkL.refl _) rfl ?_
 try refine xz1 e1 ?_
 refine caM [2] (zpg l 0 n h0 (by omega)) ?_
 try refine xz1 e1 ?_
 refine caM [0,1,2] (ya6 f b far (zdp l 0 n) n (by rw[za3];omega) (by rw[za3];omega)) ?_
 try refine xz1 e1 ?_
 refine caM [0,1,2] (yav f b far (hdn Nod.all (zdp l 0 n) 0 n) n (by rw[zp3,za3];exact hn) (by rw[zp3,za3];exact hl)) ?_
 try refine xz1 e1 ?_
 refine zco [0,1,2,3] rfl rfl (by decide) ⟨?_,?_,?_,?_,trivial⟩ trivial ?_<;>simp(etaStruct := .none)only[push_cast,zab,seval]
theorem zgm (n:Nat) (h:n<18446744073709551616):IntKind.u64.wrap (n:Int)=n:=by rw[IntKind.wrap_u64];omega
theorem zh3 (n:Nat) (h:n<4294967296):bits .and .u64 (n:Int) 4294967295=(n:Int):=by
 show IntKind.u64.wrap ((BitVec.ofInt 64 (n:Int) &&& BitVec.ofInt 64 ((4294967295:Nat):Int)).toNat:Nat)=_
 rw[BitVec.toNat_and,BitVec.ofInt_natCast,BitVec.ofInt_natCast,BitVec.toNat_ofNat,BitVec.toNat_ofNat,Nat.mod_eq_of_lt (show n<2 ^ 64 by omega),Nat.mod_eq_of_lt (show 4294967295<2 ^ 64 by decide)]
 have:n &&& 4294967295=n:=by rw[show (4294967295:Nat)=2 ^ 32-1 from rfl,Nat.and_two_pow_sub_one_eq_mod,Nat.mod_eq_of_lt (by omega)]
 rw[this]
 exact zgm n (by omega)
theorem ya8 (n:Nat) (h:n≤1600):Spec Tryz.prog 212 [.c (.v (.int .u64 1)),.c (.v (.int .u64 n))] [] (.tup [.c (.v (.int .u64 0)),.c (.v (.int .u64 n))]) []:=by
 have a1:=zh3 n (by omega)
 have a2:bits .and .u64 1 4294967295=1:=zh3 1 (by decide)
 have a3:bits .and .u64 0 4294967295=0:=zh3 0 (by decide)
 have w1:∀x:Int,0≤x→x≤1600→IntKind.u64.wrap x=x:=fun x h1 h2=>by
  obtain⟨k,rfl⟩:=Int.eq_ofNat_of_zero_le h1
  exact zgm k (by omega)
 have d1:(n:Int).fdiv 4294967296=0:=by rw[Int.fdiv_eq_ediv_of_nonneg _ (by decide)];omega
 have d2:(1:Int).fdiv 4294967296=0:=rfl
 have d3:(0:Int).fdiv 4294967296=0:=rfl
 have e1:IntKind.u64.wrap (n:Int)=n:=w1 _ (by omega) (by omega)
 have e0:IntKind.u64.wrap 0=0:=rfl
 have hm:(2:Int) ^ min 32 IntKind.u64.bits=4294967296:=rfl
 refine spB Tryz.func212 51 [.tmp 4,.tmp 5] Tryz.results212 ?_
 iterate 2(try simp(etaStruct := .none)only[push_cast,zab,seval,hm,a1,a2,a3,d1,d2,d3,e1,e0,Int.mul_zero,Int.zero_mul,Int.one_mul,Int.add_zero,Int.zero_add];try refine xsu ?_)
 exact xrz rfl
theorem yin (n:Nat) (h:n≤1600):Spec Tryz.prog 206 [.c (.v (.int .u64 1)),.c (.v (.int .u64 n))] [] (.tup [.c (.v (.int .u64 0)),.c (.v (.int .u64 n))]) []:=by
 refine spB Tryz.func206 30 [.tmp 4,.tmp 5] Tryz.results206 ?_
 try refine xst ?_
 refine cI (fun h1 => ?_) fun h1 => ?_
 ·exact absurd h1 (by decide)
 ·try refine xst ?_
  refine caP (ya8 n h) ?_
  try refine xst ?_
  exact xrz rfl
def rp (k n:Nat):List Int:=List.replicate k (-1)++List.replicate (n-k) 0
theorem yea {k n:Nat} (h:k≤n):(rp k n).length=n:=by unfold rp;simp;omega
theorem z01 {k n:Nat} (h:k≤n):(rp k n).take k=List.replicate k (-1):=by unfold rp;rw[List.take_append_of_le_length (by simp)];simp
theorem znt {α β : Type} (f : α → β) (l:List α) (o:Nat) (m:List α):zax (l.map f) o (m.map f)=(zax l o m).map f:=by
 unfold zax
 rw[List.map_append,List.map_append,List.map_take,List.map_drop,List.length_map]
theorem yaf {k n:Nat} (h:k≤n):zax (rp k n) k ((List.replicate k (-1)).take (n-k))=rp (k+min k (n-k)) n:=by
 rw[List.take_replicate]
 unfold zax
 rw[z01 h,List.length_replicate]
 unfold rp
 rw[List.drop_append,List.length_replicate,List.drop_of_length_le (by simp),List.nil_append,show k+min (n-k) k-k=min (n-k) k from by omega,List.drop_replicate,←List.append_assoc,List.replicate_append_replicate,Nat.min_comm (n-k) k,show n-k-min k (n-k)=n-(k+min k (n-k))from by omega]
theorem z5b {n:Nat} (h:1≤n):zax (List.replicate n (0:Int)) 0 ([(-1:Int)].take n)=rp 1 n:=by
 obtain⟨m,rfl⟩:∃m,n=m+1:=⟨n-1,by omega⟩
 unfold zax rp
 simp
theorem zv2 (n:Nat) (hpos:1≤n) (h:n≤1600):Spec Tryz.prog 199 [.own 0,I .i64 n] [.row 3 1 [[pI (-1)]]] (.own 1) [.row 3 1 [[pI (-1)]],.row 3 1 ((List.replicate n (-1:Int)).map zac)]:=by
 have e1:IntKind.u64.wrap (n:Int)=n:=zgm n (by omega)
 have e2:IntKind.u64.wrap 1=1:=rfl
 have e3:IntKind.i64.wrap (n:Int)=n:=zaq _ (by omega) (by omega)
 have hf:=z5b hpos
 have hf2:zax (List.replicate n [pI 0]) 0 (([[pI (-1)]]:List (List PV)).take n)=(rp 1 n).map zac:=by rw[←hf,←znt];simp[zac]
 have hmn:min 1 n=1:=by omega
 refine spB Tryz.func199 48 [.tmp 4] Tryz.results199 ?_
 try refine xz3 e1 e2 e3 ?_
 refine cI (fun h1 => ?_) fun h1 => ?_
 ·exfalso;omega
 ·try refine xz3 e1 e2 e3 ?_
  refine caP (yin n h) ?_
  try refine xz3 e1 e2 e3 ?_
  refine cI (fun h2 => ?_) fun h2 => ?_
  ·exfalso;omega
  ·try refine xz3 e1 e2 e3 ?_
   refine zas (fun k:Nat=>⟨[(8,I .i64 k),(7,.own 1)],[(0,.row 3 1 [[pI (-1)]]),(1,.row 3 1 ((rp k n).map zac))],2⟩) (fun k:Nat=>1≤k∧k≤n) (fun k:Nat=>n-k) (1) (⟨Nat.le_refl _,hpos⟩) (To.mk [0,1] rfl rfl (by decide) ?_ ?_) ?_
   ·simp(etaStruct := .none)only[push_cast,zab,seval,List.length_replicate]
    simpa only[zax,List.take_zero,List.nil_append,Nat.zero_add]using hf2
   ·simp(etaStruct := .none)only[push_cast,zab,seval,List.length_replicate,hmn]
   rintro k ⟨hk1,hk⟩
   have hrl:=yea hk
   have hrc:=yaf hk
   have htk:((rp k n).map zac).take k=(List.replicate k (-1:Int)).map zac:=by rw[←List.map_take,z01 hk]
   have hs2:zax ((rp k n).map zac) k ((((rp k n).map zac).take k).take (n-k))=(rp (k+min k (n-k)) n).map zac:=by rw[htk,←List.map_take,znt,hrc]
   have hl2:(((rp k n).map zac).take k).length=k:=by rw[List.length_take,List.length_map,hrl];omega
   unfold zax at hs2
   try refine xz3 e1 e2 e3 ?_
   refine cI (fun h3 => ?_) fun h3 => ?_
   ·skip
    try refine xz3 e1 e2 e3 ?_
    (try(refine⟨by kernel_rfl,?_⟩))
    try refine xz3 e1 e2 e3 ?_
    refine⟨k+min k (n-k),⟨by omega,by omega⟩,by omega,To.mk [0,1] rfl rfl (by decide) ?_ ?_⟩
    ·try refine xz1 hrl ?_
     exact hs2
    ·(try(refine xz2 hl2 hrl ?_;try exact xtI))
   ·obtain rfl:k=n:=by omega
    have hrn:rp k k=List.replicate k (-1):=by unfold rp;simp
    try refine xz3 e1 e2 e3 ?_
    refine zco [0,1] rfl rfl (by decide) ⟨?_,?_,trivial⟩ trivial ?_<;>simp(etaStruct := .none)only[push_cast,zab,seval,hrn]
abbrev yh6 (f:Fld) (b:Cel) (far:List Int) (q:List Nod):List PV := [pI f.w,pI f.h,.sl 1 (f.p.map zac),pI b.x,pI b.y,.sl 1 (far.map zac),.sl 4 (q.map zci)]
theorem zfa (f:Fld) (b:Cel) (far:List Int) (q:List Nod) (c:Cel) (hf:zbp f=0) (hc:inF f c=true):Spec Tryz.prog 193 [.fel 7 [yh6 f b far q] 0 0,zem c] [] (I .i64 (zau f c)) []:=by
 obtain⟨i1,i2,i3,i4,i5⟩:=za8 hf hc
 have hci:=inF_iff.1 hc
 have e1:IntKind.i64.wrap (IntKind.i64.wrap (c.y*f.w)+c.x)=(zau f c:Int):=by rw[zaq (c.y*f.w) (by omega) (by omega),zaq _ (by omega) (by omega)];unfold zau;omega
 refine spB Tryz.func193 16 [.tmp 4] Tryz.results193 ?_
 try refine xz1 e1 ?_
 (try(refine⟨by kernel_rfl,?_⟩))
 try refine xz1 e1 ?_
 exact xrz rfl
def zc5 (f:Fld) (c:Cel):Int × Bool:=if inF f c then (if zag f c=1 then (0,false)else (kV (zag f c),true))else (0,false)
theorem zt7 (f:Fld) (b:Cel) (far:List Int) (q:List Nod) (c:Cel) (hf:zbp f=0):Spec Tryz.prog 191 [.fel 7 [yh6 f b far q] 0 0,zem c] [] (.tup [I .i64 (zc5 f c).1,B (zc5 f c).2]) []:=by
 have hfo:=zba hf
 have hav:atV f c=if inF f c then (zag f c,0)else (0,7):=by unfold atV;rw[if_neg (by simp[hf])]
 have hm:f.w*f.h≤40*40:=Int.mul_le_mul hfo.1.2 hfo.2.1.2 (by omega) (by omega)
 refine spB Tryz.func191 28 [.tmp 4,.tmp 5] Tryz.results191 ?_
 try refine xst ?_
 refine caP (zzk f c (by omega)) ?_
 rw[hav]
 try refine xst ?_
 (try(refine⟨by kernel_rfl,?_⟩))
 try refine xst ?_
 refine cI (fun h1 => ?_) fun h1 => ?_
 ·have hin:inF f c=false:=by
   cases hc:inF f c with
   | false=>rfl
   | true=>rw[hc]at h1;simp at h1
  have e:zc5 f c=(0,false):=by unfold zc5;rw[if_neg (by simp[hin])]
  rw[e]
  try refine xst ?_
  exact xrz rfl
 ·have hin:inF f c=true:=by
   cases hc:inF f c with
   | true=>rfl
   | false=>rw[hc]at h1;simp at h1
  rw[if_pos hin]
  try refine xst ?_
  refine caP (yf3 (zag f c)) ?_
  have hpl:=hfo.2.2.2 _ (za9 f.p _ (show (c.y*f.w+c.x).toNat<f.p.length by have:=za8 hf hin;omega))
  have hcv:=z64 (q:=zag f c) hpl
  have e:zc5 f c=if zag f c=1 then (0,false)else (kV (zag f c),true):=by unfold zc5;rw[if_pos hin]
  have e3:(zc5 f c).1=(zfi (zag f c)).1∧(zc5 f c).2=decide ((zfi (zag f c)).2=0):=by
   rw[e]
   rcases hcv with h|h
   ·rw[if_pos h.1,h.2];exact⟨rfl,rfl⟩
   ·rw[if_neg h.1,h.2];exact⟨rfl,rfl⟩
  rw[e3.1,e3.2]
  try refine xst ?_
  exact xrz rfl
theorem zv9 (c:Cel) (hx : -1000000≤c.x∧c.x≤1000000) (hy : -1000000≤c.y∧c.y≤1000000):Spec Tryz.prog 192 [zem c] [] (.agg [I .i64 c.x,I .i64 (c.y-1),I .i64 (c.x-1),I .i64 c.y,I .i64 (c.x+1),I .i64 c.y,I .i64 c.x,I .i64 (c.y+1)]) []:=by
 refine spB Tryz.func192 28 [.cell 2 260] Tryz.results192 ?_
 try refine xst ?_
 exact xrz rfl
def zbt (b c:Cel):Int:=2*(((b.x-c.x).natAbs+(b.y-c.y).natAbs:Nat):Int)
end Go.Proofs.YtbapdgmcndgieaaGreat
namespace Go.Proofs.YtbapdgmcndgieaaGreat
set_option linter.all false
open Go.RowKit
set_option maxRecDepth 100000
def lk (f:Fld) (b:Cel) (far:List Int) (d:Int) (q:List Nod) (c:Cel):List Nod:=if (zc5 f c).2=true∧far.getD (zau f c) default<0 then zed Nod.all q ⟨c,d+(zc5 f c).1,d+(zc5 f c).1+zbt b c⟩else q
def zfg (f:Fld) (b:Cel) (far:List Int) (d:Int) (q:List Nod) (l:List Cel):List Nod:=l.foldl (lk f b far d) q
theorem zn8 (f:Fld) (b:Cel) (far:List Int) (d:Int) (q:List Nod) (l:List Cel) (c:Cel):zfg f b far d q (l ++ [c])=lk f b far d (zfg f b far d q l) c:=by unfold zfg;rw[List.foldl_append];rfl
theorem yfc (f:Fld) (b:Cel) (far:List Int) (d:Int) (q:List Nod) (c:Cel):(lk f b far d q c).length≤q.length+1:=by
 unfold lk;split
 ·rw[zmp];exact Nat.le_refl _
 ·omega
theorem zmj (f:Fld) (b:Cel) (far:List Int) (d:Int) (l:List Cel):∀q:List Nod,(zfg f b far d q l).length≤q.length+l.length:=by
 induction l with
 | nil=>intro q;exact Nat.le_refl _
 | cons c r ih=>intro q;have h1:=ih (lk f b far d q c);have h2:=yfc f b far d q c;simp only[zfg,List.foldl_cons,List.length_cons]at *;omega
def goB (f:Fld) (b:Cel) (far:List Int) (q:List Nod):Prop:=0<q.length∧(far.getD (zau f b) default<0∨(q.getD 0 default).all≤far.getD (zau f b) default)
def zlx (f:Fld) (b:Cel):Nat→List Int→List Nod→List Int × List Nod
 | 0,far,q=>(far,q)
 | N+1,far,q=>if 0<q.length∧(far.getD (zau f b) default<0∨(q.getD 0 default).all≤far.getD (zau f b) default)then
  (if 0≤far.getD (zau f (q.getD 0 default).c) default then zlx f b N far (zgi Nod.all q)
   else zlx f b N (far.set (zau f (q.getD 0 default).c) (q.getD 0 default).far) (zfg f b (far.set (zau f (q.getD 0 default).c) (q.getD 0 default).far) (q.getD 0 default).far (zgi Nod.all q) (zaf (q.getD 0 default).c)))
  else (far,q)
section
variable {f : Fld} {W H : Nat}
theorem zu0 (hw:f.w=(W:Int)) (hh:f.h=(H:Int)) (hW:0<W) {p:Nat} (hp:p<W*H):inF f (zeg W p)=true∧zau f (zeg W p)=p:=by
 have h1:=Nat.div_add_mod p W
 have h2:=Nat.mod_lt p hW
 have h3:p/W<H:=by rw[Nat.div_lt_iff_lt_mul hW,Nat.mul_comm];exact hp
 unfold zeg zau
 refine⟨inF_iff.2 ⟨⟨Int.natCast_nonneg _,by simp only;rw[hw];exact Int.ofNat_lt.2 h2⟩,Int.natCast_nonneg _,by simp only;rw[hh];exact Int.ofNat_lt.2 h3⟩,?_⟩
 simp only
 rw[hw,show ((p/W:Nat):Int)*(W:Int)=((W*(p/W):Nat):Int)from by rw[Nat.mul_comm,Int.natCast_mul]]
 omega
theorem zbr (hw:f.w=(W:Int)) (hh:f.h=(H:Int)) (hW:0<W) (hf:zbp f=0) {c:Cel} (hc:inF f c=true):c=zeg W (zau f c)∧zau f c<f.p.length:=by
 obtain⟨i1,i2,i3,i4,i5⟩:=za8 hf hc
 have hci:=inF_iff.1 hc
 obtain⟨x,hx⟩:∃x:Nat,c.x=(x:Int):=Int.eq_ofNat_of_zero_le hci.1.1
 obtain⟨y,hy⟩:∃y:Nat,c.y=(y:Int):=Int.eq_ofNat_of_zero_le hci.2.1
 have e:zau f c=W*y+x:=by
  unfold zau
  rw[hx,hy,hw,show (y:Int)*(W:Int)=((W*y:Nat):Int)from by rw[Nat.mul_comm,Int.natCast_mul]]
  omega
 have hxW:x<W:=by omega
 refine⟨?_,by unfold zau;omega⟩
 rw[e]
 unfold zeg
 rw[Nat.mul_add_mod,Nat.mod_eq_of_lt hxW,Nat.mul_add_div hW,Nat.div_eq_of_lt hxW,Nat.add_zero,←hx,←hy]
theorem zp1 (hw:f.w=(W:Int)) (hh:f.h=(H:Int)) (hW:0<W) (b:Cel):ygk W (W*H) fun p=>zbt b (zeg W p):=by
 intro p n hp hn ha
 have key:∀c c':Cel,(c.x=c'.x∧(c.y=c'.y+1∨c'.y=c.y+1))∨(c.y=c'.y∧(c.x=c'.x+1∨c'.x=c.x+1))→zbt b c≤zbt b c'+2:=by
  intro c c' h;unfold zbt;omega
 refine key _ _ ?_
 have h1:=Nat.div_add_mod p W
 have h2:=Nat.div_add_mod n W
 have m1:=Nat.mod_lt p hW
 have m2:=Nat.mod_lt n hW
 unfold zeg
 simp only
 have up:∀m:Nat,(m+W) % W=m % W∧(m+W)/W=m/W+1:=fun m=>⟨Nat.add_mod_right m W,Nat.add_div_right m hW⟩
 have side:∀m:Nat,0<(m+1) % W→(m+1) % W=m % W+1∧(m+1)/W=m/W:=fun m h=>by
  have hs:=zvr hW m
  have hl:=Nat.mod_lt m hW
  have hd:=Nat.div_add_mod m W
  split at hs
  ·omega
  ·rename_i hne
   refine⟨hs,?_⟩
   have hlt:m % W+1<W:=by omega
   have:m+1=W*(m/W)+(m % W+1):=by rw[←Nat.add_assoc,Nat.div_add_mod]
   rw[this,Nat.mul_add_div hW,Nat.div_eq_of_lt hlt,Nat.add_zero]
 rcases ha with h|⟨h,h'⟩|⟨h,h'⟩|h
 ·obtain⟨u1,u2⟩:=up n;rw[h]at u1 u2;exact .inl ⟨by omega,.inl (by omega)⟩
 ·obtain⟨u1,u2⟩:=side n (by rw[h];exact h');rw[h]at u1 u2;exact .inr ⟨by omega,.inl (by omega)⟩
 ·obtain⟨u1,u2⟩:=side p (by rw[h];exact h');rw[h]at u1 u2;exact .inr ⟨by omega,.inr (by omega)⟩
 ·obtain⟨u1,u2⟩:=up p;rw[h]at u1 u2;exact .inl ⟨by omega,.inr (by omega)⟩
theorem z19 (hw:f.w=(W:Int)) (hh:f.h=(H:Int)) (hW:0<W) (hf:zbp f=0) (hL:f.p.length=W*H) (b:Cel) {a p:Nat} {far:List Int} {q:List Nod} {done:Nat→Nat→Prop} {d:Int} (h:As W f.p a (fun n=>zbt b (zeg W n)) far q done) (hp:p<f.p.length) (hd:far.getD p default=d) (h0:0≤d)
 (top:∀m,m<f.p.length→0≤far.getD m default→far.getD m default+zbt b (zeg W m)≤d+zbt b (zeg W p)) (hb:d+3≤3*zhr zff far) (c:Cel) (hc:inF f c=true→Adj W p (zau f c)) :
 As W f.p a (fun n=>zbt b (zeg W n)) far (lk f b far d q c) fun x n=>done x n∨(x=p∧inF f c=true∧n=zau f c):=by
 have hcons:=zp1 hw hh hW b
 rw[←hL]at hcons
 cases hin:inF f c with
 | false =>
  have e:lk f b far d q c=q:=by unfold lk zc5;rw[if_neg (by rw[hin];simp)]
  rw[e]
  refine⟨h.len,h.low,h.heap,h.itm,h.src,h.why,h.top,fun u v h1 h2 h3 h4=>h.all u v h1 h2 h3 ?_⟩
  rcases h4 with h4|h4
  ·exact h4
  ·exact absurd h4.2.1 (by decide)
 | true =>
  obtain⟨e1,e2⟩:=zbr hw hh hW hf hin
  have epl:zag f c=f.p.getD (zau f c) default:=rfl
  refine h.look hcons (n:=zau f c) e2 hp (hc hin) (by rw[hd];exact h0) (fun m h1 h2=>by rw[hd];exact top m h1 h2) (by rw[hd];exact hb) _ (fun x y h4=>by
   rcases h4 with h4|h4
   ·exact .inl h4
   ·exact .inr ⟨h4.1,h4.2.2⟩) ?_
  unfold lk zc5
  rw[if_pos hin,epl,hd]
  by_cases hr:f.p.getD (zau f c) default=1
  ·rw[if_pos hr,if_neg (by simp)]
   exact .inl ⟨.inl hr,rfl⟩
  ·rw[if_neg hr]
   by_cases hn:far.getD (zau f c) default<0
   ·rw[if_pos ⟨rfl,hn⟩,←e1]
    exact .inr ⟨hr,hn,rfl⟩
   ·rw[if_neg (fun h=>hn h.2)]
    exact .inl ⟨.inr (by omega),rfl⟩
theorem zln (hw:f.w=(W:Int)) (hh:f.h=(H:Int)) (hW:0<W) {p:Nat} (hp:p<W*H) {c:Cel} (hc:c∈zaf (zeg W p)) (hin:inF f c=true):Adj W p (zau f c):=by
 obtain⟨bm,_⟩:=zkg f hw hh hW hp
 have:zau f c∈zdd W H p:=by rw[←bm];exact List.mem_map_of_mem (List.mem_filter.2 ⟨hc,hin⟩)
 exact((zhf hW hp).1 this).2
theorem zta (hw:f.w=(W:Int)) (hh:f.h=(H:Int)) (hW:0<W) {p n:Nat} (hp:p<W*H) (hn:n<W*H) (ha:Adj W p n):∃c∈zaf (zeg W p),inF f c=true∧n=zau f c:=by
 obtain⟨bm,_⟩:=zkg f hw hh hW hp
 have:=(zhf hW hp).2 ⟨hn,ha⟩
 rw[←bm]at this
 obtain⟨c,hc,e⟩:=List.mem_map.1 this
 obtain⟨h1,h2⟩:=List.mem_filter.1 hc
 exact⟨c,h1,h2,e.symm⟩
def yf0 (f:Fld) (W p k:Nat) (x n:Nat):Prop:=x≠p∨∃c∈(zaf (zeg W p)).take k,inF f c=true∧n=zau f c
theorem z8m (hw:f.w=(W:Int)) (hh:f.h=(H:Int)) (hW:0<W) (hf:zbp f=0) (hL:f.p.length=W*H) (b:Cel) {a p:Nat} {far:List Int} {q:List Nod} {d:Int} (h:As W f.p a (fun n=>zbt b (zeg W n)) far q (fun x _=>x≠p)) (hp:p<f.p.length) (hd:far.getD p default=d) (h0:0≤d)
 (top:∀m,m<f.p.length→0≤far.getD m default→far.getD m default+zbt b (zeg W m)≤d+zbt b (zeg W p)) (hb:d+3≤3*zhr zff far):∀k,k≤4→As W f.p a (fun n=>zbt b (zeg W n)) far (zfg f b far d q ((zaf (zeg W p)).take k)) (yf0 f W p k):=by
 intro k
 induction k with
 | zero =>
  intro _
  refine⟨h.len,h.low,h.heap,h.itm,h.src,h.why,h.top,fun u v h1 h2 h3 h4=>h.all u v h1 h2 h3 ?_⟩
  rcases h4 with h4|⟨c,hc,_⟩
  ·exact h4
  ·simp at hc
 | succ k ih =>
  intro hk
  have hlt:k<(zaf (zeg W p)).length:=by rw[show (zaf (zeg W p)).length=4 from rfl];omega
  rw[zav _ _ hlt,zn8]
  have:=z19 hw hh hW hf hL b (ih (by omega)) hp hd h0 top hb ((zaf (zeg W p)).getD k default) (fun hin=>zln hw hh hW (by omega) (za9 _ _ hlt) hin)
  refine⟨this.len,this.low,this.heap,this.itm,this.src,this.why,this.top,fun u v h1 h2 h3 h4=>this.all u v h1 h2 h3 ?_⟩
  rcases h4 with h4|⟨c,hc,h5,h6⟩
  ·exact .inl (.inl h4)
  ·rw[zav _ _ hlt,List.mem_append,List.mem_singleton]at hc
   by_cases hu:u=p
   ·rcases hc with hc|hc
    ·exact .inl (.inr ⟨c,hc,h5,h6⟩)
    ·subst hc;exact .inr ⟨hu,h5,h6⟩
   ·exact .inl (.inl hu)
theorem zwv (hw:f.w=(W:Int)) (hh:f.h=(H:Int)) (hW:0<W) (hL:f.p.length=W*H) {a p:Nat} {hf2:Nat→Int} {far:List Int} {q:List Nod} (hp:p<f.p.length) (h:As W f.p a hf2 far q (yf0 f W p 4)):As W f.p a hf2 far q fun _ _=>True:=by
 refine⟨h.len,h.low,h.heap,h.itm,h.src,h.why,h.top,fun u v h1 h2 h3 _=>h.all u v h1 h2 h3 ?_⟩
 by_cases hu:u=p
 ·subst hu;exact .inr (zta hw hh hW (by omega) (by omega) h3)
 ·exact .inl hu
end
def muS (f:Fld) (far:List Int) (q:List Nod):Nat:=5*(f.p.length-zhr zff far)+q.length
section
variable {f : Fld} {W H : Nat}
theorem zxq (hw:f.w=(W:Int)) (hh:f.h=(H:Int)) (hW:0<W) (hf:zbp f=0) (hL:f.p.length=W*H) (b:Cel) {a:Nat} {far:List Int} {q:List Nod} (h:As W f.p a (fun n=>zbt b (zeg W n)) far q fun _ _=>True) (hq:0<q.length) (h0:far.getD (zau f (q.getD 0 default).c) default<0) :
 ∃p,(q.getD 0 default).c=zeg W p∧zau f (q.getD 0 default).c=p∧p<f.p.length∧0≤(q.getD 0 default).far∧As W f.p a (fun n=>zbt b (zeg W n)) (far.set p (q.getD 0 default).far) (zgi Nod.all q) (fun x _=>x≠p)∧(far.set p (q.getD 0 default).far).getD p default=(q.getD 0 default).far∧zhr zff (far.set p (q.getD 0 default).far)=zhr zff far+1 ∧
  (∀m,m<f.p.length→0≤(far.set p (q.getD 0 default).far).getD m default→(far.set p (q.getD 0 default).far).getD m default+zbt b (zeg W m)≤(q.getD 0 default).far+zbt b (zeg W p))∧(q.getD 0 default).far+3≤3*zhr zff (far.set p (q.getD 0 default).far):=by
 obtain⟨p,e1,hp,j0,jb,ja,jm,jw⟩:=h.itm _ ((zf7 Nod.all q hq _).2 (.inl rfl))
 have hidx:zau f (q.getD 0 default).c=p:=by rw[e1];exact(zu0 hw hh hW (by omega)).2
 rw[hidx]at h0
 obtain⟨_,hA⟩:=h.close hW hq e1 h0
 have hpL:p<far.length:=by rw[h.len];exact hp
 have G:=fun k=>zlq (q.getD 0 default).far k hpL
 have cnt:zhr zff (far.set p (q.getD 0 default).far)=zhr zff far+1:=by
  have:=zg7 zff far p (q.getD 0 default).far hpL
  simp only[zff,if_neg (show ¬0≤far.getD p default by omega),if_pos j0]at this;simpa[zff]using this
 refine⟨p,e1,hidx,hp,j0,hA,by rw[G,if_pos rfl],cnt,fun m hm hm0 => ?_,by rw[cnt];omega⟩
 rw[G]at hm0 ⊢
 split
 ·rename_i e;subst e;exact Int.le_refl _
 ·rename_i e
  rw[if_neg e]at hm0
  have:=jm m hm hm0
  omega
theorem yd6 (hw:f.w=(W:Int)) (hh:f.h=(H:Int)) (hW:0<W) (hf:zbp f=0) (hL:f.p.length=W*H) (b:Cel) {a:Nat} : ∀(N:Nat) (far:List Int) (q:List Nod),As W f.p a (fun n=>zbt b (zeg W n)) far q (fun _ _=>True)→muS f far q≤N →
 As W f.p a (fun n=>zbt b (zeg W n)) (zlx f b N far q).1 (zlx f b N far q).2 (fun _ _=>True)∧¬goB f b (zlx f b N far q).1 (zlx f b N far q).2:=by
 intro N
 induction N with
 | zero =>
  intro far q h hm
  refine⟨h,fun hg => ?_⟩
  have:=hg.1
  simp only[zlx]at this
  unfold muS at hm;omega
 | succ N ih =>
  intro far q h hm
  rw[zlx]
  split
  ·rename_i hg
   have hcl:=zgp zff 1 zgw far
   rw[h.len]at hcl
   split
   ·rename_i h0
    obtain⟨p,e1,hp,_⟩:=h.itm _ ((zf7 Nod.all q hg.1 _).2 (.inl rfl))
    have hidx:zau f (q.getD 0 default).c=p:=by rw[e1];exact(zu0 hw hh hW (by omega)).2
    rw[hidx]at h0
    exact ih _ _ (h.skip hg.1 e1 h0) (by unfold muS at *;rw[zhj];omega)
   ·rename_i h0
    obtain⟨p,e1,hidx,hp,j0,hA,hself,cnt,top,hb⟩:=zxq hw hh hW hf hL b h hg.1 (by omega)
    have h4:=z8m hw hh hW hf hL b hA hp hself j0 top hb 4 (Nat.le_refl _)
    rw[show (zaf (zeg W p)).take 4=zaf (zeg W p)from rfl]at h4
    have h5:=zwv hw hh hW hL hp h4
    rw[hidx,e1]
    refine ih _ _ h5 ?_
    have hll:=zmj f b (far.set p (q.getD 0 default).far) (q.getD 0 default).far (zaf (zeg W p)) (zgi Nod.all q)
    have hcl2:=zgp zff 1 zgw (far.set p (q.getD 0 default).far)
    rw[List.length_set,h.len]at hcl2
    rw[zhj,show (zaf (zeg W p)).length=4 from rfl]at hll
    unfold muS at *
    rw[cnt];omega
  ·rename_i hg
   exact⟨h,hg⟩
end
end Go.Proofs.YtbapdgmcndgieaaGreat
namespace Go.Proofs.YtbapdgmcndgieaaGreat
set_option linter.all false
open Go.RowKit
set_option maxRecDepth 100000
set_option maxHeartbeats 1000000
theorem yar (f:Fld) (b:Cel) (far:List Int) (l:List Nod) (c:Cel) (d:Int) (hl:l.length≤1000000) (hx : -1000≤c.x∧c.x≤1000) (hy : -1000≤c.y∧c.y≤1000) (hbx:0≤b.x∧b.x≤40) (hby:0≤b.y∧b.y≤40) (hd:0≤d∧d≤1000000):Spec Tryz.prog 200 [.ptr 0 0 0,zem c,I .i64 d] [.blk 265 [I .i64 f.w,I .i64 f.h,.c (.sl 1 (f.p.map zac)),I .i64 b.x,I .i64 b.y,.own 1,.own 2],.row 3 1 (far.map zac),.row 281 4 (l.map zci)] (.tup []) [.blk 265 [I .i64 f.w,I .i64 f.h,.c (.sl 1 (f.p.map zac)),I .i64 b.x,I .i64 b.y,.own 1,.own 3],.row 3 1 (far.map zac),.dead,.row 281 4 ((zed Nod.all l ⟨c,d,d+zbt b c⟩).map zci)]:=by
 have e1:IntKind.i64.wrap (d+IntKind.i64.wrap (2*(((b.x-c.x).natAbs+(b.y-c.y).natAbs:Nat):Int)))=d+zbt b c:=by unfold zbt;rw[zaq (2*_) (by omega) (by omega),zaq _ (by omega) (by omega)]
 refine spB Tryz.func200 32 [] Tryz.results200 ?_
 try refine xz1 e1 ?_
 refine caP (zpv c b (by simp[zd0];omega) (by simp[zd0];omega)) ?_
 try refine xz1 e1 ?_
 (try(refine⟨by kernel_rfl,?_⟩))
 try refine xz1 e1 ?_
 refine zgd [0,1,2] (z5q f b far l ⟨c,d,d+zbt b c⟩ hl) (WkL.refl _) rfl (by decide) (by simp[zcd,zfz,zte]) ?_
 try refine xz1 e1 ?_
 (try(refine⟨by kernel_rfl,?_⟩))
 try refine xz1 e1 ?_
 refine zco [0,1,2,104] rfl rfl (by decide) ⟨?_,?_,?_,?_,trivial⟩ trivial ?_<;>simp(etaStruct := .none)only[push_cast,zab,seval]
end Go.Proofs.YtbapdgmcndgieaaGreat
namespace Go.Proofs.YtbapdgmcndgieaaGreat
set_option linter.all false
open Go.RowKit
set_option maxRecDepth 100000
def znd (R:List Int) (f:Fld) (c n:Cel):Bool:=decide (0≤R.getD (zau f n) default)&&decide (R.getD (zau f n) default+kV (zag f c)=R.getD (zau f c) default)
def zl9 (R:List Int) (f:Fld) (c:Cel):Cel:=((zb0 f c).find? (znd R f c)).getD default
def zq4 (R:List Int) (f:Fld) (a:Cel):Nat→Cel→List Cel
 | 0,_ => []
 | N+1,c=>if c=a then []else zl9 R f c::zq4 R f a N (zl9 R f c)
def zvb (R:List Int) (f:Fld) (a b:Cel):List Cel:=(b::zq4 R f a (R.getD (zau f b) default).toNat b).reverse
def zfw (R:List Int) (f:Fld) (a b:Cel):Int:=if zbp f≠0 then zbp f else if ¬(inF f a=true∧inF f b=true)then 7 else if zag f a=1∨zag f b=1 then 9 else if R.getD (zau f b) default<0 then 6 else 0
theorem zs8 {f:Fld} {W H:Nat} (hw:f.w=(W:Int)) (hh:f.h=(H:Int)) (hW:0<W) (hf:zbp f=0) (hL:f.p.length=W*H) {c n:Cel} (hc:inF f c=true) (hn:n∈zb0 f c):inF f n=true∧Adj W (zau f c) (zau f n)∧zau f n<f.p.length:=by
 obtain⟨h1,h2⟩:=List.mem_filter.1 hn
 obtain⟨e1,e2⟩:=zbr hw hh hW hf hc
 rw[e1]at h1
 exact⟨h2,zln hw hh hW (by omega) h1 h2,(zbr hw hh hW hf h2).2⟩
theorem yew {f:Fld} {W H:Nat} (hw:f.w=(W:Int)) (hh:f.h=(H:Int)) (hW:0<W) (hf:zbp f=0) (hL:f.p.length=W*H) {a c:Cel} {R:List Int} (hR:Flood W f.p [zau f a] R) (ha:inF f a=true) (hc:inF f c=true) (hca:c≠a) (h0:0≤R.getD (zau f c) default) :
 ∃n∈zb0 f c,znd R f c n=true:=by
 obtain⟨e1,e2⟩:=zbr hw hh hW hf hc
 rcases hR.why _ e2 h0 with ⟨h1,h2⟩|⟨m,hm,hadj,hr,h3,h4⟩
 ·rw[List.mem_singleton]at h1
  have:=(zbr hw hh hW hf ha).1
  rw[←h1,←e1]at this
  exact absurd this.symm hca
 ·have hp:=hR.all m _ hm e2 hadj.symm h3 hr
  obtain⟨n,hn,hin,rfl⟩:=zta hw hh hW (by omega) (by omega) hadj
  rw[←e1]at hn
  refine⟨n,List.mem_filter.2 ⟨hn,hin⟩,?_⟩
  unfold znd
  have epl:zag f c=f.p.getD (zau f c) default:=rfl
  rw[epl,Bool.and_eq_true,decide_eq_true_eq,decide_eq_true_eq]
  exact⟨h3,by omega⟩
theorem zwk {f:Fld} {W H:Nat} (hw:f.w=(W:Int)) (hh:f.h=(H:Int)) (hW:0<W) (hf:zbp f=0) (hL:f.p.length=W*H) {a c:Cel} {R:List Int} (hR:Flood W f.p [zau f a] R) (ha:inF f a=true) (hc:inF f c=true) (hca:c≠a) (h0:0≤R.getD (zau f c) default) :
 (zb0 f c).find? (znd R f c)=some (zl9 R f c)∧zl9 R f c∈zb0 f c∧inF f (zl9 R f c)=true∧Adj W (zau f c) (zau f (zl9 R f c))∧0≤R.getD (zau f (zl9 R f c)) default∧R.getD (zau f (zl9 R f c)) default+kV (zag f c)=R.getD (zau f c) default:=by
 obtain⟨n,hn,hp⟩:=yew hw hh hW hf hL hR ha hc hca h0
 cases hfi:(zb0 f c).find? (znd R f c)with
 | none=>exact absurd hp (by simpa using List.find?_eq_none.1 hfi n hn)
 | some m =>
  have e:zl9 R f c=m:=by unfold zl9;rw[hfi];rfl
  have hm:=List.mem_of_find?_eq_some hfi
  have hq:=List.find?_some hfi
  unfold znd at hq
  rw[Bool.and_eq_true,decide_eq_true_eq,decide_eq_true_eq]at hq
  obtain⟨b1,b2,_⟩:=zs8 hw hh hW hf hL hc hm
  rw[e]
  exact⟨rfl,hm,b1,b2,hq.1,hq.2⟩
theorem yaq {f:Fld} {W H:Nat} (hw:f.w=(W:Int)) (hh:f.h=(H:Int)) (hW:0<W) (hf:zbp f=0) (hL:f.p.length=W*H) {a b c:Cel} {R far:List Int} {q:List Nod} (hR:Flood W f.p [zau f a] R) (ha:inF f a=true) (hpa:zag f a≠1) (hc:inF f c=true) (h0:0≤R.getD (zau f c) default)
 (hA:As W f.p (zau f a) (fun n=>zbt b (zeg W n)) far q fun _ _=>True) (hcb:R.getD (zau f c) default+zbt b c≤R.getD (zau f b) default) (hq:∀x∈q,R.getD (zau f b) default<x.all) (hfc:far.getD (zau f c) default=R.getD (zau f c) default) {n:Cel} (hn:n∈zaf c) :
 ((zc5 f n).2=true∧0≤far.getD (zau f n) default∧far.getD (zau f n) default+kV (zag f c)=far.getD (zau f c) default)↔(inF f n=true∧znd R f c n=true):=by
 have hcons:=zp1 hw hh hW b
 rw[←hL]at hcons
 have haL:=(zbr hw hh hW hf ha).2
 obtain⟨ec,hcL⟩:=zbr hw hh hW hf hc
 have hkv:=zuh (zag f c)
 have epl:∀n,zag f n=f.p.getD (zau f n) default:=fun _=>rfl
 unfold znd zc5
 rw[Bool.and_eq_true,decide_eq_true_eq,decide_eq_true_eq,hfc]
 constructor
 ·rintro⟨h1,h2,h3⟩
  have hin:inF f n=true:=by
   cases hi:inF f n with
   | true=>rfl
   | false=>rw[hi]at h1;simp at h1
  have:=hA.same hcons haL hR (zbr hw hh hW hf hin).2 h2
  rw[this]at h2 h3
  exact⟨hin,h2,h3⟩
 ·rintro⟨hin,h2,h3⟩
  obtain⟨en,hnL⟩:=zbr hw hh hW hf hin
  have hadj:Adj W (zau f c) (zau f n):=by rw[ec]at hn;exact zln hw hh hW (by omega) hn hin
  have hle:=hcons _ _ hnL hcL hadj.symm
  simp only at hle
  rw[←en,←ec]at hle
  have hk:=hA.known hcons haL hR hnL h2 (fun x hx=>by have:=hq x hx;rw[←en];omega)
  rw[hk]
  refine⟨?_,h2,h3⟩
  rw[if_pos hin,if_neg]
  rw[epl]
  rcases hR.why _ hnL h2 with ⟨w1,_⟩|⟨_,_,_,hr,_⟩
  ·rw[List.mem_singleton]at w1;rw[w1];exact hpa
  ·exact hr
theorem zy2 {f:Fld} {R:List Int} {c:Cel} {p:Cel→Bool} (hp:∀n∈zaf c,p n=(inF f n&&znd R f c n)):(zaf c).find? p=(zb0 f c).find? (znd R f c):=by
 unfold zb0
 rw[List.find?_filter]
 have key:∀l:List Cel,(∀n∈l,p n=(inF f n&&znd R f c n))→l.find? p=l.find? (fun n=>inF f n&&znd R f c n):=by
  intro l
  induction l with
  | nil=>intro _;rfl
  | cons x r ih=>intro h;rw[List.find?_cons,List.find?_cons,h x (by simp),ih fun n hn=>h n (by simp[hn])]
 have:=key _ hp
 simpa using this
end Go.Proofs.YtbapdgmcndgieaaGreat
namespace Go.Proofs.YtbapdgmcndgieaaGreat
set_option linter.all false
open Go.RowKit
set_option maxRecDepth 100000
set_option maxHeartbeats 2000000
def yb0 (f:Fld) (c:Cel):Nat:=if inF f c=true then zau f c else 0
theorem zj5 {f:Fld} {c:Cel} (h:inF f c=true):yb0 f c=zau f c:=if_pos h
theorem z2n {f:Fld} (hf:zbp f=0) (c:Cel):yb0 f c<f.p.length:=by
 have hfo:=zba hf
 unfold yb0
 split
 ·rename_i h
  have:=za8 hf h
  unfold zau;omega
 ·have h1:0<f.w*f.h:=Int.mul_pos (by omega) (by omega)
  omega
theorem zl5 (f:Fld) (b:Cel) (far:List Int) (q:List Nod) (c:Cel) (hf:zbp f=0) (hc:(zc5 f c).2=true):Spec Tryz.prog 193 [.fel 7 [yh6 f b far q] 0 0,zem c] [] (I .i64 (yb0 f c)) []:=by
 have hin:inF f c=true:=by
  cases hi:inF f c with
  | true=>rfl
  | false=>unfold zc5 at hc;rw[hi]at hc;simp at hc
 rw[zj5 hin];exact zfa f b far q c hf hin
theorem zlm (c:Cel) (k:Nat) (hk:k<4):List.take 2 (List.drop (k*2) ([I .i64 c.x,I .i64 (c.y-1),I .i64 (c.x-1),I .i64 c.y,I .i64 (c.x+1),I .i64 c.y,I .i64 c.x,I .i64 (c.y+1)]:List AV)) = [I .i64 ((zaf c).getD k default).x,I .i64 ((zaf c).getD k default).y]:=by
 have:k=0∨k=1∨k=2∨k=3:=by omega
 rcases this with rfl|rfl|rfl|rfl<;>rfl
theorem z0r {f:Fld} {c:Cel} (hf:zbp f=0) (hc:inF f c=true) (k:Nat) (hk:k<4):(-1000≤((zaf c).getD k default).x∧((zaf c).getD k default).x≤1000) ∧ -1000≤((zaf c).getD k default).y∧((zaf c).getD k default).y≤1000:=by
 have h1:=inF_iff.1 hc
 have h2:=zba hf
 have:k=0∨k=1∨k=2∨k=3:=by omega
 rcases this with rfl|rfl|rfl|rfl<;>simp only[zaf,List.getD_cons_zero,List.getD_cons_succ]<;>omega
theorem yaa {f:Fld} {b:Cel} {fr:List Int} {m:List Nod} (h:0<m.length∧(fr.getD (zau f b) default<0∨(m.getD 0 default).all≤fr.getD (zau f b) default)) (M:Nat):zlx f b (M+1) fr m=if 0≤fr.getD (zau f (m.getD 0 default).c) default then zlx f b M fr (zgi Nod.all m)
 else zlx f b M (fr.set (zau f (m.getD 0 default).c) (m.getD 0 default).far) (zfg f b (fr.set (zau f (m.getD 0 default).c) (m.getD 0 default).far) (m.getD 0 default).far (zgi Nod.all m) (zaf (m.getD 0 default).c)):=by
 rw[zlx,if_pos h]
theorem z99 {f:Fld} {b:Cel} {fr:List Int} {m:List Nod} (h:¬(0<m.length∧(fr.getD (zau f b) default<0∨(m.getD 0 default).all≤fr.getD (zau f b) default))) (M:Nat):zlx f b M fr m=(fr,m):=by
 cases M with
 | zero=>rfl
 | succ M=>rw[zlx,if_neg h]
theorem z8a (f:Fld) (b:Cel) {W H:Nat} (hw:f.w=(W:Int)) (hh:f.h=(H:Int)) (hW:0<W) (hf:zbp f=0) (hL:f.p.length=W*H) (hb:inF f b=true) (a N:Nat) (far:List Int) (q:List Nod) (hA:As W f.p a (fun n=>zbt b (zeg W n)) far q (fun _ _=>True)) (hm:muS f far q≤N) (hN:N≤100000):Spec Tryz.prog 201 [.ptr 0 0 0] [.blk 265 [I .i64 f.w,I .i64 f.h,.c (.sl 1 (f.p.map zac)),I .i64 b.x,I .i64 b.y,.own 1,.own 2],.row 3 1 (far.map zac),.row 281 4 (q.map zci)] (.tup []) [.blk 265 [I .i64 f.w,I .i64 f.h,.c (.sl 1 (f.p.map zac)),I .i64 b.x,I .i64 b.y,.own 1,.own 3],.row 3 1 ((zlx f b N far q).1.map zac),.dead,.row 281 4 ((zlx f b N far q).2.map zci)]:=by
 have hbW:zau f b<f.p.length:=(zbr hw hh hW hf hb).2
 have hbi:=inF_iff.1 hb
 have hfo:=zba hf
 have hpl:=(za8 hf hb).2.2.2.2
 refine spB Tryz.func201 108 [] Tryz.results201 ?_
 (iterate 2((try simp(etaStruct := .none)only[push_cast,seval]);(try(refine xsu ?_;try exact xtI))))
 refine zbv (zfa f b far q b hf hb) (WkL.refl _) rfl ?_
 (iterate 2((try simp(etaStruct := .none)only[push_cast,seval]);(try(refine xsu ?_;try exact xtI))))
 refine zas (fun x:Nat × List Int × List Nod=>⟨[(2,I .i64 (zau f b)),(0,.ptr 0 0 0)],[(0,.blk 265 [I .i64 f.w,I .i64 f.h,.c (.sl 1 (f.p.map zac)),I .i64 b.x,I .i64 b.y,.own 1,.own 3]),(1,.row 3 1 (x.2.1.map zac)),(2,.dead),(3,.row 281 4 (x.2.2.map zci))],4⟩) (fun x:Nat × List Int × List Nod=>As W f.p a (fun n=>zbt b (zeg W n)) x.2.1 x.2.2 (fun _ _=>True)∧muS f x.2.1 x.2.2≤x.1∧x.1≤N∧zlx f b x.1 x.2.1 x.2.2=zlx f b N far q) (fun x:Nat × List Int × List Nod=>x.1) ((N,far,q)) (⟨hA,hm,Nat.le_refl _,rfl⟩) ((To.moveC 0 6 2 281 4 265 _ (q.map zci) rfl rfl rfl).trans (To.mk [0,1,2,3] rfl rfl (by decide) ?_ ?_)) ?_
 ·simp(etaStruct := .none)only[push_cast,zab,seval,List.set_cons_zero,List.set_cons_succ]
 ·simp(etaStruct := .none)only[push_cast,zab,seval]
 rintro⟨M,fr,m⟩ ⟨hA,hm,hMN,hu⟩
 simp only at hA hm hMN hu
 have hbF:zau f b<fr.length:=by rw[hA.len];exact hbW
 rcases Nat.eq_zero_or_pos m.length with hz|hz
 ·obtain rfl:=List.length_eq_zero_iff.1 hz
  have e:zlx f b M fr []=(fr,[]):=by
   cases M with
   | zero=>rfl
   | succ M=>rw[zlx,if_neg (fun h=>by simp at h)]
  simp only[awp,yh8]
  refine zbi _ rfl ?_
  intro O l R hl hd hR
  subst hl
  iterate 4(refine za2 fun r hr => ?_;simp(etaStruct := .none)only[push_cast,zab,seval,hd];subst hr)
  refine za2 fun r hr => ?_
  simp(etaStruct := .none)only[push_cast,zab,seval,hd]
  refine zbv (zr0 []) (WkL.refl _) rfl ?_
  simp(etaStruct := .none)only[push_cast,zab,seval,hd,List.length_nil,Int.ofNat_zero,Int.lt_irrefl]
  subst hr
  iterate 28(refine za2 fun r hr => ?_;simp(etaStruct := .none)only[push_cast,zab,seval,hd,zaa _ _ _ hbF,zac,List.length_nil,Int.ofNat_zero,Int.lt_irrefl,id];(try refine⟨fun h=>absurd h (by decide),?_⟩);(try refine⟨fun h=>h.elim,?_⟩);subst hr)
  refine zjo ?_
  subst hR
  refine zjn (by kernel_rfl) ?_
  simp(etaStruct := .none) (maxSteps:=1000000)only[push_cast,zab,seval]
  refine zal (fun h1 => ?_) (fun h1 => ?_)
  ·exact absurd h1 (by decide)
  ·rw[←hu,e]
   try refine xst ?_
   refine zco [0,1,2,3] rfl rfl (by decide) ⟨?_,?_,?_,?_,trivial⟩ trivial ?_<;>simp(etaStruct := .none)only[push_cast,zab,seval]
 have hzd:(0<(m.length:Int))=True:=eq_true (by omega)
 have hmu5:m.length≤100000:=by unfold muS at hm;omega
 (iterate 2((try simp(etaStruct := .none)only[push_cast,seval,hzd,zaa _ _ _ hbF,zaa _ _ _ hz,zac,zci]);(try(refine xsu ?_;try exact xtI))))
 refine zbi [some 14,some 15,some 16,some 17,some 18,some 19,some 20,some 21,some 22,some 23,some 24,some 25,some 26,some 27,some 28,some 29,some 30,some 31,some 32,some 33,some 34,some 35,some 36,some 37,some 38,some 39,some 40,some 41,some 42,some 43,some 44,some 45,some 46] rfl ?_
 intro Oq lq Rq hlq hdq hRq
 subst hlq
 iterate 4(refine za2 fun rq hrq => ?_;(iterate 2((try simp(etaStruct := .none)only[push_cast,seval,hdq,id,hzd,zaa _ _ _ hbF,zaa _ _ _ hz,zac,zci]);(try(refine xsu ?_;try exact xtI))));subst hrq)
 refine za2 fun rq hrq => ?_
 (iterate 2((try simp(etaStruct := .none)only[push_cast,seval,hdq,id,hzd,zaa _ _ _ hbF,zaa _ _ _ hz,zac,zci]);(try(refine xsu ?_;try exact xtI))))
 refine zbv (zr0 m) (WkL.refl _) rfl ?_
 (iterate 2((try simp(etaStruct := .none)only[push_cast,seval,hdq,id,hzd,zaa _ _ _ hbF,zaa _ _ _ hz,zac,zci]);(try(refine xsu ?_;try exact xtI))))
 subst hrq
 iterate 28(refine za2 fun rq hrq => ?_;(iterate 2((try simp(etaStruct := .none)only[push_cast,seval,hdq,id,hzd,zaa _ _ _ hbF,zaa _ _ _ hz,zac,zci]);(try(refine xsu ?_;try exact xtI))));subst hrq)
 refine zjo ?_
 subst hRq
 clear hdq Oq
 refine zjn (by kernel_rfl) ?_
 (iterate 2((try simp(etaStruct := .none)only[push_cast,seval,hzd,zaa _ _ _ hbF,zaa _ _ _ hz,zac,zci]);(try(refine xsu ?_;try exact xtI))))
 refine cI (fun h1 => ?_) fun h1 => ?_
 ·have hg:goB f b fr m:=⟨hz,h1⟩
  obtain⟨p,e1,hp,j0,jb,_⟩:=hA.itm _ ((zf7 Nod.all m hz _).2 (.inl rfl))
  obtain⟨hin,hidx⟩:=zu0 (f:=f) hw hh hW (p:=p) (by omega)
  rw[←e1]at hin hidx
  have hpF:zau f (m.getD 0 default).c<fr.length:=by rw[hidx,hA.len];exact hp
  have hci:=inF_iff.1 hin
  have hcl:=zgp zff 1 zgw fr
  rw[hA.len]at hcl
  obtain⟨M',rfl⟩:∃M',M=M'+1:=⟨M-1,by unfold muS at hm;omega⟩
  have hrun:=yaa hg M'
  (iterate 2((try simp(etaStruct := .none)only[push_cast,seval,hzd,zaa _ _ _ hbF,zaa _ _ _ hz,zac,zci,zaa _ _ _ hpF]);(try(refine xsu ?_;try exact xtI))))
  refine caM [0,1,3] (ya5 f b fr m hz (by omega)) ?_
  (iterate 2((try simp(etaStruct := .none)only[push_cast,seval,hzd,zaa _ _ _ hbF,zaa _ _ _ hz,zac,zci,zaa _ _ _ hpF]);(try(refine xsu ?_;try exact xtI))))
  refine zbi [some 53,some 54,some 55,some 56,some 57,some 58,some 59,some 60,some 61,some 62,some 63] rfl ?_
  intro Oq lq Rq hlq hdq hRq
  subst hlq
  iterate 7(refine za2 fun rq hrq => ?_;(iterate 2((try simp(etaStruct := .none)only[push_cast,seval,hdq,id,hzd,zaa _ _ _ hbF,zaa _ _ _ hz,zac,zci,zaa _ _ _ hpF]);(try(refine xsu ?_;try exact xtI))));subst hrq)
  refine za2 fun rq hrq => ?_
  (iterate 2((try simp(etaStruct := .none)only[push_cast,seval,hdq,id,hzd,zaa _ _ _ hbF,zaa _ _ _ hz,zac,zci,zaa _ _ _ hpF]);(try(refine xsu ?_;try exact xtI))))
  refine zbv (zfa f b fr (zgi Nod.all m) (m.getD 0 default).c hf hin) (WkL.refl _) rfl ?_
  (iterate 2((try simp(etaStruct := .none)only[push_cast,seval,hdq,id,hzd,zaa _ _ _ hbF,zaa _ _ _ hz,zac,zci,zaa _ _ _ hpF]);(try(refine xsu ?_;try exact xtI))))
  subst hrq
  iterate 3(refine za2 fun rq hrq => ?_;(iterate 2((try simp(etaStruct := .none)only[push_cast,seval,hdq,id,hzd,zaa _ _ _ hbF,zaa _ _ _ hz,zac,zci,zaa _ _ _ hpF]);(try(refine xsu ?_;try exact xtI))));subst hrq)
  refine zjo ?_
  subst hRq
  clear hdq Oq
  refine zjn (by kernel_rfl) ?_
  (iterate 2((try simp(etaStruct := .none)only[push_cast,seval,hzd,zaa _ _ _ hbF,zaa _ _ _ hz,zac,zci,zaa _ _ _ hpF]);(try(refine xsu ?_;try exact xtI))))
  refine cI (fun h2 => ?_) fun h2 => ?_
  ·skip
   (iterate 2((try simp(etaStruct := .none)only[push_cast,seval,hzd,zaa _ _ _ hbF,zaa _ _ _ hz,zac,zci,zaa _ _ _ hpF]);(try(refine xsu ?_;try exact xtI))))
   refine⟨(M',fr,zgi Nod.all m),⟨hA.skip hz e1 (by rw[←hidx];exact h2),by simp only;unfold muS at hm ⊢;rw[zhj];omega,by simp only;omega,by rw[←hu,hrun,if_pos h2]⟩,by simp only;omega,To.mk [0,1,2,136] rfl rfl (by decide) ?_ ?_⟩
   ·(iterate 2((try simp(etaStruct := .none)only[push_cast,seval,hzd,zaa _ _ _ hbF,zaa _ _ _ hz,zac,zci,zaa _ _ _ hpF]);(try(refine xsu ?_;try exact xtI))))
   ·(iterate 2((try simp(etaStruct := .none)only[push_cast,seval,hzd,zaa _ _ _ hbF,zaa _ _ _ hz,zac,zci,zaa _ _ _ hpF]);(try(refine xsu ?_;try exact xtI))))
  ·obtain⟨p',e1',_,_,_,hA2,hself,cnt,top,hb3⟩:=zxq hw hh hW hf hL b hA hz (by omega)
   obtain rfl:p=p':=zel (e1.symm.trans e1')
   obtain⟨C,hC⟩:∃C,C=(m.getD 0 default).c:=⟨_,rfl⟩
   obtain⟨D,hD⟩:∃D,D=(m.getD 0 default).far:=⟨_,rfl⟩
   rw[←hidx,←hC,←hD]at hA2 hself cnt top hb3
   rw[←hC,←hD]at hrun
   rw[←hC]at hin hci e1 hidx hpF
   rw[←hD]at j0 jb
   obtain⟨Fq,hFS⟩:∃Fq,Fq=fr.set (zau f C) D:=⟨_,rfl⟩
   rw[←hFS]at hA2 hself cnt top hb3 hrun
   have hFl:Fq.length=f.p.length:=by rw[hFS,List.length_set];exact hA.len
   (iterate 2((try simp(etaStruct := .none)only[push_cast,seval,hzd,zaa _ _ _ hbF,zaa _ _ _ hz,zac,zci,zaa _ _ _ hpF,←hC,←hD]);(try(refine xsu ?_;try exact xtI))))
   refine zbi [some 64,some 65,some 66,some 67,some 68,some 69,some 70,some 71,some 72,some 73,some 74,none] rfl ?_
   intro Oq lq Rq hlq hdq hRq
   subst hlq
   iterate 7(refine za2 fun rq hrq => ?_;(iterate 2((try simp(etaStruct := .none)only[push_cast,seval,hdq,id,hzd,zaa _ _ _ hbF,zaa _ _ _ hz,zac,zci,zaa _ _ _ hpF,←hC,←hD]);(try(refine xsu ?_;try exact xtI))));subst hrq)
   refine za2 fun rq hrq => ?_
   (iterate 2((try simp(etaStruct := .none)only[push_cast,seval,hdq,id,hzd,zaa _ _ _ hbF,zaa _ _ _ hz,zac,zci,zaa _ _ _ hpF,←hC,←hD]);(try(refine xsu ?_;try exact xtI))))
   refine zbv (zfa f b fr (zgi Nod.all m) C hf hin) (WkL.refl _) rfl ?_
   (iterate 2((try simp(etaStruct := .none)only[push_cast,seval,hdq,id,hzd,zaa _ _ _ hbF,zaa _ _ _ hz,zac,zci,zaa _ _ _ hpF,←hC,←hD]);(try(refine xsu ?_;try exact xtI))))
   subst hrq
   iterate 4(refine za2 fun rq hrq => ?_;(iterate 2((try simp(etaStruct := .none)only[push_cast,seval,hdq,id,hzd,zaa _ _ _ hbF,zaa _ _ _ hz,zac,zci,zaa _ _ _ hpF,←hC,←hD]);(try(refine xsu ?_;try exact xtI))));subst hrq)
   refine zjo ?_
   subst hRq
   clear hdq Oq
   refine zjn (by kernel_rfl) ?_
   (iterate 2((try simp(etaStruct := .none)only[push_cast,seval,hzd,zaa _ _ _ hbF,zaa _ _ _ hz,zac,zci,zaa _ _ _ hpF,←hC,←hD]);(try(refine xsu ?_;try exact xtI))))
   refine caP (zv9 C (by omega) (by omega)) ?_
   (iterate 2((try simp(etaStruct := .none)only[push_cast,seval,hzd,zaa _ _ _ hbF,zaa _ _ _ hz,zac,zci,zaa _ _ _ hpF,←hC,←hD]);(try(refine xsu ?_;try exact xtI))))
   refine zas (fun k:Nat=>⟨[(78,I .i64 k),(77,.agg [I .i64 C.x,I .i64 (C.y-1),I .i64 (C.x-1),I .i64 C.y,I .i64 (C.x+1),I .i64 C.y,I .i64 C.x,I .i64 (C.y+1)]),(3,.ptr 4 0 0),(2,I .i64 (zau f b)),(0,.ptr 0 0 0)],[(0,.blk 265 [I .i64 f.w,I .i64 f.h,.c (.sl 1 (f.p.map zac)),I .i64 b.x,I .i64 b.y,.own 1,.own 3]),(1,.row 3 1 (Fq.map zac)),(2,.dead),(3,.row 281 4 ((zfg f b Fq D (zgi Nod.all m) ((zaf C).take k)).map zci)),(4,.blk 281 [I .i64 C.x,I .i64 C.y,I .i64 D,I .i64 (m.getD 0 default).all])],5⟩) (fun k:Nat=>k≤4) (fun k:Nat=>4-k) (0) (Nat.zero_le _) (To.mk [0,1,2,136,137] rfl rfl (by decide) ?_ ?_) ?_
   ·simp(etaStruct := .none)only[push_cast,zab,seval,List.map_set,zac,List.take_zero,zfg,List.foldl_nil,hFS]
   ·simp(etaStruct := .none)only[push_cast,zab,seval,Int.ofNat_zero]
   rintro k hk2
   (iterate 2((try simp(etaStruct := .none)only[push_cast,seval,hzd,zaa _ _ _ hbF,zaa _ _ _ hz,zac,zci,zaa _ _ _ hpF,←hC,←hD]);(try(refine xsu ?_;try exact xtI))))
   refine cI (fun h3 => ?_) fun h3 => ?_
   ·have hlt:k<4:=by omega
    have hsc:=zlm C k hlt
    have hsn:=z0r hf hin k hlt
    have hst:zfg f b Fq D (zgi Nod.all m) ((zaf C).take (k+1))=lk f b Fq D (zfg f b Fq D (zgi Nod.all m) ((zaf C).take k)) ((zaf C).getD k default):=by rw[zav _ _ (show k<(zaf C).length from hlt),zn8]
    have hgG:yb0 f ((zaf C).getD k default)<Fq.length:=by rw[hFl];exact z2n hf _
    have hcb:0≤(zc5 f ((zaf C).getD k default)).1∧(zc5 f ((zaf C).getD k default)).1≤3:=by
     have:=zuh (zag f ((zaf C).getD k default))
     unfold zc5
     split
     ·split<;>simp only<;>omega
     ·simp only;omega
    have hql:((zfg f b Fq D (zgi Nod.all m) ((zaf C).take k))).length≤100004:=by
     have h1:=zmj f b Fq D ((zaf C).take k) (zgi Nod.all m)
     rw[zhj,List.length_take]at h1
     omega
    (iterate 2((try simp(etaStruct := .none)only[push_cast,seval,hzd,zaa _ _ _ hbF,zaa _ _ _ hz,zac,zci,zaa _ _ _ hpF,←hC,←hD,hsc,zaa _ _ _ hgG,zac]);(try(refine xsu ?_;try exact xtI))))
    refine zbv (zt7 f b Fq (zfg f b Fq D (zgi Nod.all m) ((zaf C).take k)) ((zaf C).getD k default) hf) (WkL.refl _) rfl ?_
    (iterate 2((try simp(etaStruct := .none)only[push_cast,seval,hzd,zaa _ _ _ hbF,zaa _ _ _ hz,zac,zci,zaa _ _ _ hpF,←hC,←hD,hsc,zaa _ _ _ hgG,zac]);(try(refine xsu ?_;try exact xtI))))
    refine zbi [some 87,some 88,some 89,some 90,some 91,some 92,some 93,some 94,some 95,some 96,some 97,some 98,some 99] rfl ?_
    intro Oq lq Rq hlq hdq hRq
    subst hlq
    iterate 8(refine za2 fun rq hrq => ?_;(iterate 2((try simp(etaStruct := .none)only[push_cast,seval,hdq,id,hzd,zaa _ _ _ hbF,zaa _ _ _ hz,zac,zci,zaa _ _ _ hpF,←hC,←hD,hsc,zaa _ _ _ hgG,zac]);(try(refine xsu ?_;try exact xtI))));subst hrq)
    refine za2 fun rq hrq => ?_
    (iterate 2((try simp(etaStruct := .none)only[push_cast,seval,hdq,id,hzd,zaa _ _ _ hbF,zaa _ _ _ hz,zac,zci,zaa _ _ _ hpF,←hC,←hD,hsc,zaa _ _ _ hgG,zac]);(try(refine xsu ?_;try exact xtI))))
    refine zg2 (fun hcc=>zl5 f b Fq (zfg f b Fq D (zgi Nod.all m) ((zaf C).take k)) ((zaf C).getD k default) hf hcc) (WkL.refl _) rfl (by intro hc;(try simp(etaStruct := .none)only[push_cast,zab,seval]);(try simp_all)) ?_
    (iterate 2((try simp(etaStruct := .none)only[push_cast,seval,hdq,id,hzd,zaa _ _ _ hbF,zaa _ _ _ hz,zac,zci,zaa _ _ _ hpF,←hC,←hD,hsc,zaa _ _ _ hgG,zac]);(try(refine xsu ?_;try exact xtI))))
    subst hrq
    iterate 4(refine za2 fun rq hrq => ?_;(iterate 2((try simp(etaStruct := .none)only[push_cast,seval,hdq,id,hzd,zaa _ _ _ hbF,zaa _ _ _ hz,zac,zci,zaa _ _ _ hpF,←hC,←hD,hsc,zaa _ _ _ hgG,zac]);(try(refine xsu ?_;try exact xtI))));subst hrq)
    refine zjo ?_
    subst hRq
    clear hdq Oq
    refine zjn (by kernel_rfl) ?_
    (iterate 2((try simp(etaStruct := .none)only[push_cast,seval,hzd,zaa _ _ _ hbF,zaa _ _ _ hz,zac,zci,zaa _ _ _ hpF,←hC,←hD,hsc,zaa _ _ _ hgG,zac]);(try(refine xsu ?_;try exact xtI))))
    refine cI (fun h4 => ?_) fun h4 => ?_
    ·have hin2:inF f ((zaf C).getD k default)=true:=by
      cases hi:inF f ((zaf C).getD k default)with
      | true=>rfl
      | false=>have:=h4.1;unfold zc5 at this;rw[hi]at this;simp at this
     have hlk:lk f b Fq D (zfg f b Fq D (zgi Nod.all m) ((zaf C).take k)) ((zaf C).getD k default)=zed Nod.all (zfg f b Fq D (zgi Nod.all m) ((zaf C).take k)) ⟨((zaf C).getD k default),D+(zc5 f ((zaf C).getD k default)).1,D+(zc5 f ((zaf C).getD k default)).1+zbt b ((zaf C).getD k default)⟩:=by unfold lk;rw[if_pos ⟨h4.1,by rw[←zj5 hin2];exact h4.2⟩]
     rw[hlk]at hst
     (iterate 2((try simp(etaStruct := .none)only[push_cast,seval,hzd,zaa _ _ _ hbF,zaa _ _ _ hz,zac,zci,zaa _ _ _ hpF,←hC,←hD,hsc,zaa _ _ _ hgG,zac,hst]);(try(refine xsu ?_;try exact xtI))))
     refine caM [0,1,3] (yar f b Fq (zfg f b Fq D (zgi Nod.all m) ((zaf C).take k)) ((zaf C).getD k default) (D+(zc5 f ((zaf C).getD k default)).1) (by omega) hsn.1 hsn.2 (by omega) (by omega) (by omega)) ?_
     (iterate 2((try simp(etaStruct := .none)only[push_cast,seval,hzd,zaa _ _ _ hbF,zaa _ _ _ hz,zac,zci,zaa _ _ _ hpF,←hC,←hD,hsc,zaa _ _ _ hgG,zac,hst]);(try(refine xsu ?_;try exact xtI))))
     refine⟨k+1,by omega,by omega,To.mk [0,1,2,58,4] rfl rfl (by decide) ?_ ?_⟩
     ·(iterate 2((try simp(etaStruct := .none)only[push_cast,seval,hzd,zaa _ _ _ hbF,zaa _ _ _ hz,zac,zci,zaa _ _ _ hpF,←hC,←hD,hsc,zaa _ _ _ hgG,zac,hst]);(try(refine xsu ?_;try exact xtI))))
     ·(iterate 2((try simp(etaStruct := .none)only[push_cast,seval,hzd,zaa _ _ _ hbF,zaa _ _ _ hz,zac,zci,zaa _ _ _ hpF,←hC,←hD,hsc,zaa _ _ _ hgG,zac,hst]);(try(refine xsu ?_;try exact xtI))))
    ·have hlk:lk f b Fq D (zfg f b Fq D (zgi Nod.all m) ((zaf C).take k)) ((zaf C).getD k default)=(zfg f b Fq D (zgi Nod.all m) ((zaf C).take k)):=by
      unfold lk
      rw[if_neg]
      rintro⟨c1,c2⟩
      have hin2:inF f ((zaf C).getD k default)=true:=by
       cases hi:inF f ((zaf C).getD k default)with
       | true=>rfl
       | false=>unfold zc5 at c1;rw[hi]at c1;simp at c1
      rw[←zj5 hin2]at c2
      rcases h4 with h4|h4
      ·rw[c1]at h4;exact absurd h4 (by decide)
      ·omega
     rw[hlk]at hst
     (iterate 2((try simp(etaStruct := .none)only[push_cast,seval,hzd,zaa _ _ _ hbF,zaa _ _ _ hz,zac,zci,zaa _ _ _ hpF,←hC,←hD,hsc,zaa _ _ _ hgG,zac,hst]);(try(refine xsu ?_;try exact xtI))))
     refine⟨k+1,by omega,by omega,To.mk [0,1,2,3,4] rfl rfl (by decide) ?_ ?_⟩
     ·(iterate 2((try simp(etaStruct := .none)only[push_cast,seval,hzd,zaa _ _ _ hbF,zaa _ _ _ hz,zac,zci,zaa _ _ _ hpF,←hC,←hD,hsc,zaa _ _ _ hgG,zac,hst]);(try(refine xsu ?_;try exact xtI))))
     ·(iterate 2((try simp(etaStruct := .none)only[push_cast,seval,hzd,zaa _ _ _ hbF,zaa _ _ _ hz,zac,zci,zaa _ _ _ hpF,←hC,←hD,hsc,zaa _ _ _ hgG,zac,hst]);(try(refine xsu ?_;try exact xtI))))
   ·obtain rfl:k=4:=by omega
    have ht4:(zaf C).take 4=zaf C:=rfl
    have hpc:zau f C<f.p.length:=by omega
    have h4:=z8m hw hh hW hf hL b hA2 hpc hself j0 top hb3 4 (Nat.le_refl _)
    rw[hidx,←e1,ht4,←hidx]at h4
    have h5:=zwv hw hh hW hL hpc h4
    have hll:=zmj f b Fq D (zaf C) (zgi Nod.all m)
    rw[zhj,show (zaf C).length=4 from rfl]at hll
    have hcl2:=zgp zff 1 zgw Fq
    rw[hFl]at hcl2
    (iterate 2((try simp(etaStruct := .none)only[push_cast,seval,hzd,zaa _ _ _ hbF,zaa _ _ _ hz,zac,zci,zaa _ _ _ hpF,←hC,←hD,ht4]);(try(refine xsu ?_;try exact xtI))))
    refine⟨(M',Fq,zfg f b Fq D (zgi Nod.all m) (zaf C)),⟨h5,by simp only;unfold muS at hm ⊢;omega,by simp only;omega,by rw[←hu,hrun,if_neg (by rw[hC];omega)]⟩,by simp only;omega,To.mk [0,1,2,3] rfl rfl (by decide) ?_ ?_⟩
    ·(iterate 2((try simp(etaStruct := .none)only[push_cast,seval,hzd,zaa _ _ _ hbF,zaa _ _ _ hz,zac,zci,zaa _ _ _ hpF,←hC,←hD,ht4]);(try(refine xsu ?_;try exact xtI))))
    ·(iterate 2((try simp(etaStruct := .none)only[push_cast,seval,hzd,zaa _ _ _ hbF,zaa _ _ _ hz,zac,zci,zaa _ _ _ hpF,←hC,←hD,ht4]);(try(refine xsu ?_;try exact xtI))))
 ·rw[←hu,z99 (fun h=>by have:=h.2;omega) M]
  (iterate 2((try simp(etaStruct := .none)only[push_cast,seval,hzd,zaa _ _ _ hbF,zaa _ _ _ hz,zac,zci]);(try(refine xsu ?_;try exact xtI))))
  refine zco [0,1,2,3] rfl rfl (by decide) ⟨?_,?_,?_,?_,trivial⟩ trivial ?_<;>simp(etaStruct := .none)only[push_cast,zab,seval]
theorem z1i (f:Fld) (b:Cel) (far:List Int) (x:Nod):Spec Tryz.prog 236 [.ptr 0 0 6,.ifc 281 (yc8 x)] [.blk 265 [I .i64 f.w,I .i64 f.h,.c (.sl 1 (f.p.map zac)),I .i64 b.x,I .i64 b.y,.own 1,.c (.v (.slice none 0 0))],.row 3 1 (far.map zac)] (.tup []) [.blk 265 [I .i64 f.w,I .i64 f.h,.c (.sl 1 (f.p.map zac)),I .i64 b.x,I .i64 b.y,.own 1,.own 2],.row 3 1 (far.map zac),.row 281 4 ([x].map zci)]:=by
 refine spB Tryz.func236 13 [] Tryz.results236 ?_
 try refine xst ?_
 (try(refine⟨by kernel_rfl,?_⟩))
 try refine xst ?_
 refine zco [0,1,30] rfl rfl (by decide) ⟨?_,?_,?_,trivial⟩ trivial ?_<;>simp(etaStruct := .none)only[push_cast,zab,seval,zci]
theorem z1n (f:Fld) (b:Cel) (far:List Int) (x:Nod):Spec Tryz.prog 207 [.ifc 279 (.ptr 0 0 6),.ifc 281 (yc8 x)] [.blk 265 [I .i64 f.w,I .i64 f.h,.c (.sl 1 (f.p.map zac)),I .i64 b.x,I .i64 b.y,.own 1,.c (.v (.slice none 0 0))],.row 3 1 (far.map zac)] (.tup []) [.blk 265 [I .i64 f.w,I .i64 f.h,.c (.sl 1 (f.p.map zac)),I .i64 b.x,I .i64 b.y,.own 1,.own 2],.row 3 1 (far.map zac),.row 281 4 ((zed Nod.all [] x).map zci)]:=by
 refine spB Tryz.func207 12 [] Tryz.results207 ?_
 try refine xst ?_
 refine caM [0,1] (z1i f b far x) ?_
 try refine xst ?_
 refine zbv (zr0 [x]) (WkL.refl _) rfl ?_
 try refine xst ?_
 refine caM [0,1,2] (yel f b far [x] 0 (by simp) (by simp)) ?_
 try refine xst ?_
 refine zco [0,1,2] rfl rfl (by decide) ⟨?_,?_,?_,trivial⟩ trivial ?_<;>simp(etaStruct := .none)only[push_cast,zab,seval,zed]
abbrev srB (f:Fld) (b:Cel) (x y:AV):Chunk := .blk 265 [I .i64 f.w,I .i64 f.h,.c (.sl 1 (f.p.map zac)),I .i64 b.x,I .i64 b.y,x,y]
theorem zwa (f:Fld) (b:Cel) (far:List Int) (c:Cel) (d:Int) (hx : -1000≤c.x∧c.x≤1000) (hy : -1000≤c.y∧c.y≤1000) (hbx:0≤b.x∧b.x≤40) (hby:0≤b.y∧b.y≤40) (hd:0≤d∧d≤1000000):Spec Tryz.prog 200 [.ptr 0 0 0,zem c,I .i64 d] [.blk 265 [I .i64 f.w,I .i64 f.h,.c (.sl 1 (f.p.map zac)),I .i64 b.x,I .i64 b.y,.own 1,.c (.v (.slice none 0 0))],.row 3 1 (far.map zac)] (.tup []) [.blk 265 [I .i64 f.w,I .i64 f.h,.c (.sl 1 (f.p.map zac)),I .i64 b.x,I .i64 b.y,.own 1,.own 2],.row 3 1 (far.map zac),.row 281 4 ((zed Nod.all [] ⟨c,d,d+zbt b c⟩).map zci)]:=by
 have e1:IntKind.i64.wrap (d+IntKind.i64.wrap (2*(((b.x-c.x).natAbs+(b.y-c.y).natAbs:Nat):Int)))=d+zbt b c:=by unfold zbt;rw[zaq (2*_) (by omega) (by omega),zaq _ (by omega) (by omega)]
 refine spB Tryz.func200 32 [] Tryz.results200 ?_
 try refine xz1 e1 ?_
 refine caP (zpv c b (by simp[zd0];omega) (by simp[zd0];omega)) ?_
 try refine xz1 e1 ?_
 (try(refine⟨by kernel_rfl,?_⟩))
 try refine xz1 e1 ?_
 refine zgd [0,1] (z1n f b far ⟨c,d,d+zbt b c⟩) (WkL.refl _) rfl (by decide) (by simp[zcd,zfz,zte]) ?_
 try refine xz1 e1 ?_
 (try(refine⟨by kernel_rfl,?_⟩))
 try refine xz1 e1 ?_
 refine zco [0,1,103] rfl rfl (by decide) ⟨?_,?_,?_,trivial⟩ trivial ?_<;>simp(etaStruct := .none)only[push_cast,zab,seval]
theorem zol {f:Fld} {c:Cel} (hf:zbp f=0):atV f c=if inF f c then (zag f c,0)else (0,7):=by unfold atV;rw[if_neg (by simp[hf])]
theorem ztu (f:Fld) (a b:Cel) (hl:f.p.length≤9223372036854775807) (hE:zbp f≠0∨¬(inF f a=true∧inF f b=true)∨zag f a=1∨zag f b=1) (R:List Int):Spec Tryz.prog 190 [znh f,zem a,zem b] [] (.tup [.c (.v (.pointer none)),I .i64 (zfw R f a b)]) []:=by
 have key:(atV f a).2≠0∧zfw R f a b=(atV f a).2∨(atV f a).2=0∧(atV f b).2≠0∧zfw R f a b=(atV f b).2∨(atV f a).2=0∧(atV f b).2=0∧zfw R f a b=9∧((atV f a).1=1∨(atV f b).1=1):=by
  by_cases hf:zbp f=0
  ·rw[zol hf,zol hf]
   unfold zfw
   cases ha:inF f a with
   | false=>exact .inl ⟨by simp[ha],by simp[ha,hf]⟩
   | true =>
    cases hb:inF f b with
    | false=>exact .inr (.inl ⟨by simp[ha],by simp[hb],by simp[hb,hf]⟩)
    | true =>
     rcases hE with h|h|h
     ·exact absurd hf h
     ·exact absurd ⟨ha,hb⟩ h
     ·exact .inr (.inr ⟨by simp[ha],by simp[hb],by simp[ha,hb,hf,h],by simpa[ha,hb]using h⟩)
  ·have e:∀c,atV f c=(0,zbp f):=fun c=>by unfold atV;rw[if_pos hf]
   rw[e]
   unfold zfw
   rw[if_pos hf]
   exact .inl ⟨hf,rfl⟩
 refine spB Tryz.func190 61 [.tmp 6,.tmp 7] Tryz.results190 ?_
 try refine xst ?_
 refine caP (zzk f a hl) ?_
 try refine xst ?_
 refine cI (fun h1 => ?_) fun h1 => ?_
 ·have e:zfw R f a b=(atV f a).2:=by
   rcases key with k|k|k
   ·exact k.2
   ·exact absurd k.1 h1
   ·exact absurd k.1 h1
  try refine xst ?_
  (first|(refine zar rfl (Wk.of ?_);(try simp(etaStruct := .none)only[push_cast,zab,seval]);first|done|(simp[e, *];done)|(simp_all[e];done))|(refine zar rfl ?_;(try simp(etaStruct := .none)only[push_cast,zab,seval]);(try simp[e, *]);(try exact wkc)))
 ·try refine xst ?_
  refine caP (zzk f b hl) ?_
  try refine xst ?_
  refine cI (fun h2 => ?_) fun h2 => ?_
  ·have e:zfw R f a b=(atV f b).2:=by
    rcases key with k|k|k
    ·exact absurd h1 k.1
    ·exact k.2.2
    ·exact absurd k.2.1 h2
   try refine xst ?_
   (first|(refine zar rfl (Wk.of ?_);(try simp(etaStruct := .none)only[push_cast,zab,seval]);first|done|(simp[e, *];done)|(simp_all[e];done))|(refine zar rfl ?_;(try simp(etaStruct := .none)only[push_cast,zab,seval]);(try simp[e, *]);(try exact wkc)))
  ·try refine xst ?_
   refine cI (fun h3 => ?_) fun h3 => ?_
   ·have e:zfw R f a b=9:=by
     rcases key with k|k|k
     ·exact absurd h1 k.1
     ·exact absurd h2 k.2.1
     ·exact k.2.2.1
    try refine xst ?_
    (first|(refine zar rfl (Wk.of ?_);(try simp(etaStruct := .none)only[push_cast,zab,seval]);first|done|(simp[e, *];done)|(simp_all[e];done))|(refine zar rfl ?_;(try simp(etaStruct := .none)only[push_cast,zab,seval]);(try simp[e, *]);(try exact wkc)))
   ·exfalso
    rcases key with k|k|k
    ·exact absurd h1 k.1
    ·exact absurd h2 k.2.1
    ·have:=k.2.2.2;omega
def zc6 (f:Fld) (a b:Cel):List Int × List Nod:=zlx f b 8001 (List.replicate f.p.length (-1)) (zed Nod.all [] ⟨a,0,0+zbt b a⟩)
theorem yio (f:Fld) (x:Nod) (h:f.p.length≤1600):muS f (List.replicate f.p.length (-1)) (zed Nod.all [] x)≤8001:=by
 unfold muS;rw[zmp];simp only[List.length_nil];omega
theorem As0 {f:Fld} {W H:Nat} (hw:f.w=(W:Int)) (hh:f.h=(H:Int)) (hW:0<W) (hf:zbp f=0) (b:Cel) {a:Cel} (ha:inF f a=true):As W f.p (zau f a) (fun n=>zbt b (zeg W n)) (List.replicate f.p.length (-1)) (zed Nod.all [] ⟨a,0,0+zbt b a⟩) fun _ _=>True:=by
 obtain⟨e,hlt⟩:=zbr hw hh hW hf ha
 have:=As.start (W:=W) (pl:=f.p) (a:=zau f a) (hh:=fun n=>zbt b (zeg W n)) hlt
 rw[←e]at this
 exact this
theorem ycg {f:Fld} (hf:zbp f=0):∃W H:Nat,f.w=(W:Int)∧f.h=(H:Int)∧0<W∧f.p.length=W*H:=by
 obtain⟨⟨w1,w2⟩,⟨w3,w4⟩,wl,wp⟩:=zba hf
 obtain⟨W,hW⟩:∃W:Nat,f.w=(W:Int):=Int.eq_ofNat_of_zero_le (by omega)
 obtain⟨H,hH⟩:∃H:Nat,f.h=(H:Int):=Int.eq_ofNat_of_zero_le (by omega)
 exact⟨W,H,hW,hH,by omega,by rw[hW,hH]at wl;exact_mod_cast wl⟩
structure Srch (f : Fld) (a b : Cel) (R : List Int) (W H : Nat) : Prop where
 w:f.w=(W:Int)
 h:f.h=(H:Int)
 w0:0<W
 l:f.p.length=W*H
 r:Flood W f.p [zau f a] R
 ass:As W f.p (zau f a) (fun n=>zbt b (zeg W n)) (zc6 f a b).1 (zc6 f a b).2 fun _ _=>True
 no:¬goB f b (zc6 f a b).1 (zc6 f a b).2
theorem yc5 {f:Fld} {a b:Cel} {R:List Int} (hf:zbp f=0) (ha:inF f a=true) (hpa:zag f a≠1) (hR:zai f [a] R):∃W H,Srch f a b R W H:=by
 obtain⟨W,H,hw,hh,hW,hL⟩:=ycg hf
 have hA:=yd6 hw hh hW hf hL b 8001 _ _ (As0 hw hh hW hf b ha) (yio f _ (za8 hf ha).2.2.2.2)
 have hlt:=(zbr hw hh hW hf ha).2
 obtain⟨F,hF⟩:=z6u (W:=W) (pl:=f.p) (s := [zau f a]) hW (za8 hf ha).2.2.2.2 (by intro p hp;rw[List.mem_singleton]at hp;rw[hp];exact hlt)
 have e:zez f [a]=0:=by
  unfold zez z39 z39
  rw[if_neg (by simp[hf]),if_neg (by simp),if_pos ha,if_neg hpa]
 have:=hR.1 e F (by rw[hw,Int.toNat_natCast];exact hF)
 subst this
 exact⟨W,H,hw,hh,hW,hL,hF,hA.1,hA.2⟩
theorem Srch.end {f:Fld} {a b:Cel} {R:List Int} {W H:Nat} (s:Srch f a b R W H) (hf:zbp f=0) (ha:inF f a=true) (hb:inF f b=true):((zc6 f a b).1.getD (zau f b) default<0↔R.getD (zau f b) default<0)∧(0≤R.getD (zau f b) default→(zc6 f a b).1.getD (zau f b) default=R.getD (zau f b) default∧∀x∈(zc6 f a b).2,R.getD (zau f b) default<x.all):=by
 have hcons:=zp1 s.w s.h s.w0 b
 rw[←s.l]at hcons
 have haL:=(zbr s.w s.h s.w0 hf ha).2
 have hbL:=(zbr s.w s.h s.w0 hf hb).2
 have h1:∀h:0≤(zc6 f a b).1.getD (zau f b) default,(zc6 f a b).1.getD (zau f b) default=R.getD (zau f b) default:=fun h=>s.ass.same hcons haL s.r hbL h
 have h2:(zc6 f a b).1.getD (zau f b) default<0→R.getD (zau f b) default<0:=fun h=>by
  rcases Int.lt_or_le (R.getD (zau f b) default) 0 with h3|h3
  ·exact h3
  ·have hq:(zc6 f a b).2 = []:=by
    have:=s.no
    unfold goB at this
    cases hq:(zc6 f a b).2 with
    | nil=>rfl
    | cons x r=>exact absurd ⟨by rw[hq];simp,.inl h⟩ this
   have:=s.ass.known hcons haL s.r hbL h3 (by rw[hq];intro x hx;simp at hx)
   omega
 refine⟨⟨h2,fun h => ?_⟩,fun h => ?_⟩
 ·rcases Int.lt_or_le ((zc6 f a b).1.getD (zau f b) default) 0 with h3|h3
  ·exact h3
  ·have:=h1 h3;omega
 ·have h3:0≤(zc6 f a b).1.getD (zau f b) default:=by
   rcases Int.lt_or_le ((zc6 f a b).1.getD (zau f b) default) 0 with h3|h3
   ·have:=h2 h3;omega
   ·exact h3
  have h4:=h1 h3
  refine⟨h4,fun x hx => ?_⟩
  obtain⟨k,hk,rfl⟩:=mem_getD.1 hx
  have hle:=zp2 _ s.ass.heap k hk
  have:=s.no
  unfold goB at this
  rw[h4]at this
  rcases Int.lt_or_le (R.getD (zau f b) default) ((zc6 f a b).2.getD k default).all with h5|h5
  ·exact h5
  ·exact absurd ⟨by omega,.inr (by omega)⟩ this
theorem zrg (f:Fld) (a b:Cel) (hl:f.p.length≤9223372036854775807) {R:List Int} (hf:zbp f=0) (ha:inF f a=true) (hb:inF f b=true) (hpa:zag f a≠1) (hpb:zag f b≠1) (hR:zai f [a] R) (h0:R.getD (zau f b) default<0):Spec Tryz.prog 190 [znh f,zem a,zem b] [] (.tup [.c (.v (.pointer none)),I .i64 6]) []:=by
 obtain⟨W,H,s⟩:=yc5 (b:=b) hf ha hpa hR
 have hend:=s.end hf ha hb
 obtain⟨hw,hh,hW,hL,hFl,hAe,_⟩:=s
 have hA0:=As0 hw hh hW hf b ha
 have hmu0:=yio f ⟨a,0,0+zbt b a⟩ (za8 hf ha).2.2.2.2
 have hai:=inF_iff.1 ha
 have hbi:=inF_iff.1 hb
 have hfo:=zba hf
 have hpx:=za8 hf ha
 have hrunS:zlx f b 8001 (List.replicate f.p.length (-1)) (zed Nod.all [] ⟨a,0,0+zbt b a⟩)=zc6 f a b:=rfl
 have hbF:zau f b<(zc6 f a b).1.length:=by rw[hAe.len];exact(zbr hw hh hW hf hb).2
 refine spB Tryz.func190 61 [.tmp 6,.tmp 7] Tryz.results190 ?_
 iterate 2(try simp(etaStruct := .none)only[push_cast,zab,seval,Int.ofNat_zero,hrunS,zaa _ _ _ hbF,zac];try refine xsu ?_)
 refine caP (zzk f a hl) ?_
 rw[zol hf,if_pos ha]
 iterate 2(try simp(etaStruct := .none)only[push_cast,zab,seval,Int.ofNat_zero,hrunS,zaa _ _ _ hbF,zac];try refine xsu ?_)
 refine cI (fun h1 => ?_) fun h1 => ?_
 ·exact absurd h1 (by decide)
 ·iterate 2(try simp(etaStruct := .none)only[push_cast,zab,seval,Int.ofNat_zero,hrunS,zaa _ _ _ hbF,zac];try refine xsu ?_)
  refine caP (zzk f b hl) ?_
  rw[zol hf,if_pos hb]
  iterate 2(try simp(etaStruct := .none)only[push_cast,zab,seval,Int.ofNat_zero,hrunS,zaa _ _ _ hbF,zac];try refine xsu ?_)
  refine cI (fun h2 => ?_) fun h2 => ?_
  ·exact absurd h2 (by decide)
  ·iterate 2(try simp(etaStruct := .none)only[push_cast,zab,seval,Int.ofNat_zero,hrunS,zaa _ _ _ hbF,zac];try refine xsu ?_)
   refine cI (fun h3 => ?_) fun h3 => ?_
   ·rcases h3 with h3|h3
    ·exact absurd h3 hpa
    ·exact absurd h3 hpb
   ·iterate 2(try simp(etaStruct := .none)only[push_cast,zab,seval,Int.ofNat_zero,hrunS,zaa _ _ _ hbF,zac];try refine xsu ?_)
    refine zgd [11] (zv2 f.p.length (by omega) (by omega)) (WkL.refl _) rfl (by decide) (by simp[zcd,zfz,zte]) ?_
    iterate 2(try simp(etaStruct := .none)only[push_cast,zab,seval,Int.ofNat_zero,hrunS,zaa _ _ _ hbF,zac];try refine xsu ?_)
    (try(refine⟨by kernel_rfl,?_⟩))
    iterate 2(try simp(etaStruct := .none)only[push_cast,zab,seval,Int.ofNat_zero,hrunS,zaa _ _ _ hbF,zac];try refine xsu ?_)
    refine caM [35,27] (zwa f b (List.replicate f.p.length (-1)) a 0 (by omega) (by omega) (by omega) (by omega) (by omega)) ?_
    iterate 2(try simp(etaStruct := .none)only[push_cast,zab,seval,Int.ofNat_zero,hrunS,zaa _ _ _ hbF,zac];try refine xsu ?_)
    refine caM [35,27,43] (z8a f b hw hh hW hf hL hb (zau f a) 8001 (List.replicate f.p.length (-1)) (zed Nod.all [] ⟨a,0,0+zbt b a⟩) hA0 hmu0 (by decide)) ?_
    iterate 2(try simp(etaStruct := .none)only[push_cast,zab,seval,Int.ofNat_zero,hrunS,zaa _ _ _ hbF,zac];try refine xsu ?_)
    refine zbv (zfa f b (zc6 f a b).1 (zc6 f a b).2 b hf hb) (WkL.refl _) rfl ?_
    iterate 2(try simp(etaStruct := .none)only[push_cast,zab,seval,Int.ofNat_zero,hrunS,zaa _ _ _ hbF,zac];try refine xsu ?_)
    (try(refine⟨by kernel_rfl,?_⟩))
    iterate 2(try simp(etaStruct := .none)only[push_cast,zab,seval,Int.ofNat_zero,hrunS,zaa _ _ _ hbF,zac];try refine xsu ?_)
    refine cI (fun h4 => ?_) fun h4 => ?_
    ·iterate 2(try simp(etaStruct := .none)only[push_cast,zab,seval,Int.ofNat_zero,hrunS,zaa _ _ _ hbF,zac];try refine xsu ?_)
     exact xrz rfl
    ·exact absurd (hend.1.2 h0) (by omega)
theorem ztt (f:Fld) (a b:Cel) (hl:f.p.length≤9223372036854775807) {R:List Int} (hf:zbp f=0) (ha:inF f a=true) (hb:inF f b=true) (hpa:zag f a≠1) (hpb:zag f b≠1) (hR:zai f [a] R) (h0:0≤R.getD (zau f b) default):Spec Tryz.prog 190 [znh f,zem a,zem b] [] (.tup [.ptr 0 0 0,I .i64 0]) [srB f b (.own 1) (.own 2),.row 3 1 ((zc6 f a b).1.map zac),.row 281 4 ((zc6 f a b).2.map zci)]:=by
 obtain⟨W,H,s⟩:=yc5 (b:=b) hf ha hpa hR
 have hend:=s.end hf ha hb
 obtain⟨hw,hh,hW,hL,hFl,hAe,_⟩:=s
 have hA0:=As0 hw hh hW hf b ha
 have hmu0:=yio f ⟨a,0,0+zbt b a⟩ (za8 hf ha).2.2.2.2
 have hai:=inF_iff.1 ha
 have hbi:=inF_iff.1 hb
 have hfo:=zba hf
 have hpx:=za8 hf ha
 have hrunS:zlx f b 8001 (List.replicate f.p.length (-1)) (zed Nod.all [] ⟨a,0,0+zbt b a⟩)=zc6 f a b:=rfl
 have hbF:zau f b<(zc6 f a b).1.length:=by rw[hAe.len];exact(zbr hw hh hW hf hb).2
 refine spB Tryz.func190 61 [.tmp 6,.tmp 7] Tryz.results190 ?_
 iterate 2(try simp(etaStruct := .none)only[push_cast,zab,seval,Int.ofNat_zero,hrunS,zaa _ _ _ hbF,zac];try refine xsu ?_)
 refine caP (zzk f a hl) ?_
 rw[zol hf,if_pos ha]
 iterate 2(try simp(etaStruct := .none)only[push_cast,zab,seval,Int.ofNat_zero,hrunS,zaa _ _ _ hbF,zac];try refine xsu ?_)
 refine cI (fun h1 => ?_) fun h1 => ?_
 ·exact absurd h1 (by decide)
 ·iterate 2(try simp(etaStruct := .none)only[push_cast,zab,seval,Int.ofNat_zero,hrunS,zaa _ _ _ hbF,zac];try refine xsu ?_)
  refine caP (zzk f b hl) ?_
  rw[zol hf,if_pos hb]
  iterate 2(try simp(etaStruct := .none)only[push_cast,zab,seval,Int.ofNat_zero,hrunS,zaa _ _ _ hbF,zac];try refine xsu ?_)
  refine cI (fun h2 => ?_) fun h2 => ?_
  ·exact absurd h2 (by decide)
  ·iterate 2(try simp(etaStruct := .none)only[push_cast,zab,seval,Int.ofNat_zero,hrunS,zaa _ _ _ hbF,zac];try refine xsu ?_)
   refine cI (fun h3 => ?_) fun h3 => ?_
   ·rcases h3 with h3|h3
    ·exact absurd h3 hpa
    ·exact absurd h3 hpb
   ·iterate 2(try simp(etaStruct := .none)only[push_cast,zab,seval,Int.ofNat_zero,hrunS,zaa _ _ _ hbF,zac];try refine xsu ?_)
    refine zgd [11] (zv2 f.p.length (by omega) (by omega)) (WkL.refl _) rfl (by decide) (by simp[zcd,zfz,zte]) ?_
    iterate 2(try simp(etaStruct := .none)only[push_cast,zab,seval,Int.ofNat_zero,hrunS,zaa _ _ _ hbF,zac];try refine xsu ?_)
    (try(refine⟨by kernel_rfl,?_⟩))
    iterate 2(try simp(etaStruct := .none)only[push_cast,zab,seval,Int.ofNat_zero,hrunS,zaa _ _ _ hbF,zac];try refine xsu ?_)
    refine caM [35,27] (zwa f b (List.replicate f.p.length (-1)) a 0 (by omega) (by omega) (by omega) (by omega) (by omega)) ?_
    iterate 2(try simp(etaStruct := .none)only[push_cast,zab,seval,Int.ofNat_zero,hrunS,zaa _ _ _ hbF,zac];try refine xsu ?_)
    refine caM [35,27,43] (z8a f b hw hh hW hf hL hb (zau f a) 8001 (List.replicate f.p.length (-1)) (zed Nod.all [] ⟨a,0,0+zbt b a⟩) hA0 hmu0 (by decide)) ?_
    iterate 2(try simp(etaStruct := .none)only[push_cast,zab,seval,Int.ofNat_zero,hrunS,zaa _ _ _ hbF,zac];try refine xsu ?_)
    refine zbv (zfa f b (zc6 f a b).1 (zc6 f a b).2 b hf hb) (WkL.refl _) rfl ?_
    iterate 2(try simp(etaStruct := .none)only[push_cast,zab,seval,Int.ofNat_zero,hrunS,zaa _ _ _ hbF,zac];try refine xsu ?_)
    (try(refine⟨by kernel_rfl,?_⟩))
    iterate 2(try simp(etaStruct := .none)only[push_cast,zab,seval,Int.ofNat_zero,hrunS,zaa _ _ _ hbF,zac];try refine xsu ?_)
    refine cI (fun h4 => ?_) fun h4 => ?_
    ·exact absurd (hend.1.1 h4) (by omega)
    ·iterate 2(try simp(etaStruct := .none)only[push_cast,zab,seval,Int.ofNat_zero,hrunS,zaa _ _ _ hbF,zac];try refine xsu ?_)
     refine zco [35,27,44] rfl rfl (by decide) ⟨?_,?_,?_,trivial⟩ trivial ?_<;>simp(etaStruct := .none)only[push_cast,zab,seval]
end Go.Proofs.YtbapdgmcndgieaaGreat
namespace Go.Proofs.YtbapdgmcndgieaaGreat
set_option linter.all false
open Go.RowKit
set_option maxRecDepth 100000
set_option maxHeartbeats 1000000
def ztd (n:Nat):List PV := [pI n]
theorem z8i (n:Nat):ztd n = [pI n]:=rfl
def zd9 (l:List Sea) (T:List Nat):List Sea:=(List.range l.length).map fun i=>⟨(l.getD i default).waits.drop (T.getD i default),(zb5 (l.getD i default)).late,(l.getD i default).gone⟩
theorem zbj (l:List Sea) (T:List Nat):(zd9 l T).length=l.length:=by simp[zd9]
theorem zho (l:List Sea) (T:List Nat) (i:Nat) (h:i<l.length):(zd9 l T).getD i default=⟨(l.getD i default).waits.drop (T.getD i default),(zb5 (l.getD i default)).late,(l.getD i default).gone⟩:=by
 rw[zad _ _ (by rw[zbj];exact h)]
 simp[zd9]
theorem zhl {α : Type} [Inhabited α] {l m:List α} (h:l.length=m.length) (h2:∀i,i<l.length→l.getD i default=m.getD i default):l=m:=by
 refine List.ext_getElem h fun i i1 i2 => ?_
 have:=h2 i i1
 rwa [zad _ _ i1,zad _ _ i2]at this
theorem zha {α : Type} [Inhabited α] (l:List α) (i j:Nat) (x : α) (h:i<l.length):(l.set i x).getD j default=if i=j then x else l.getD j default:=by
 by_cases e:i=j
 ·subst e;rw[if_pos rfl,zad _ _ (by simpa using h)];simp
 ·rw[if_neg e,List.getD_eq_getElem?_getD,List.getElem?_set_ne e,List.getD_eq_getElem?_getD]
theorem ycl (l:List Sea):zd9 l (List.replicate l.length 0)=l.map zb5:=by
 refine zhl (by simp[zbj]) fun i hi => ?_
 rw[zbj]at hi
 rw[zho _ _ _ hi,zad (List.replicate _ _) i (by simpa using hi),zad (l.map zb5) i (by simpa using hi),zad l i hi]
 simp[zb5]
theorem z3f (l:List Sea) (T:List Nat) (i n:Nat) (hT:T.length=l.length) (h:i<l.length):zd9 l (T.set i n)=(zd9 l T).set i ⟨(l.getD i default).waits.drop n,(zb5 (l.getD i default)).late,(l.getD i default).gone⟩:=by
 refine zhl (by simp[zbj]) fun j hj => ?_
 rw[zbj]at hj
 rw[zho _ _ _ hj,zha (zd9 l T) _ _ _ (by rw[zbj];exact h),zha T _ _ _ (by omega),zho _ _ _ hj]
 by_cases e:i=j
 ·subst e;simp
 ·rw[if_neg e,if_neg e]
def TkQ (most:Int) (l:List Sea) (k i:Nat) (o:List Ord) (U:List Nat):Prop :=
 U.length=l.length∧o.length≤100∧(∀j,j<l.length→U.getD j default≤(l.getD j default).waits.length) ∧
 ((o.length:Int)<most→∀j,j<l.length→U.getD j default=if j<i then min (k+1) (l.getD j default).waits.length else min k (l.getD j default).waits.length)
theorem TkQ.t {most:Int} {l:List Sea} {k i:Nat} {o:List Ord} {U:List Nat} (h:TkQ most l k i o U) (hi:i<l.length) (hk:k<(l.getD i default).waits.length) (hm:(o.length:Int)<most) (hm2:most≤100) (x:Ord) :
 U.getD i default=k∧TkQ most l k (i+1) (o ++ [x]) (U.set i (k+1)):=by
 obtain⟨h1,h2,h3,h4⟩:=h
 have e:=h4 hm i hi
 rw[if_neg (by omega),Nat.min_eq_left (by omega)]at e
 refine⟨e,by simp[h1],by simp;omega,fun j hj => ?_,fun hm' j hj => ?_⟩
 ·rw[zha _ _ _ _ (by omega)]
  split
  ·rename_i e';subst e';omega
  ·exact h3 j hj
 ·have:=h4 hm j hj
  rw[zha _ _ _ _ (by omega)]
  by_cases e':i=j
  ·subst e';rw[if_pos rfl,if_pos (by omega)];omega
  ·rw[if_neg e',this]
   by_cases e2:j<i
   ·rw[if_pos e2,if_pos (by omega)]
   ·rw[if_neg e2,if_neg (by omega)]
theorem TkQ.f {most:Int} {l:List Sea} {k i:Nat} {o:List Ord} {U:List Nat} (h:TkQ most l k i o U) (hi:i<l.length) (hc:¬(k<(l.getD i default).waits.length∧(o.length:Int)<most)):TkQ most l k (i+1) o U∧¬(0<((zd9 l U).getD i default).waits.length∧(o.length:Int)<most):=by
 obtain⟨h1,h2,h3,h4⟩:=h
 refine⟨⟨h1,h2,h3,fun hm j hj => ?_⟩,?_⟩
 ·rw[h4 hm j hj]
  by_cases e:j=i
  ·subst e;rw[if_neg (by omega),if_pos (by omega)];omega
  ·by_cases e2:j<i
   ·rw[if_pos e2,if_pos (by omega)]
   ·rw[if_neg e2,if_neg (by omega)]
 ·rw[zho _ _ _ hi]
  simp only[List.length_drop]
  rintro⟨h5,h6⟩
  have:=h4 h6 i hi
  rw[if_neg (by omega)]at this
  omega
theorem TkQ.next {most:Int} {l:List Sea} {k:Nat} {o:List Ord} {U:List Nat} (h:TkQ most l k l.length o U):TkQ most l (k+1) 0 o U:=by
 obtain⟨h1,h2,h3,h4⟩:=h
 refine⟨h1,h2,h3,fun hm j hj => ?_⟩
 rw[h4 hm j hj,if_pos hj,if_neg (by omega)]
theorem TkQ.zero (most:Int) (l:List Sea):TkQ most l 0 0 [] (List.replicate l.length 0):=by
 refine⟨by simp,by simp,fun j hj => ?_,fun _ j hj => ?_⟩<;>rw[zad _ _ (by simpa using hj)]<;>simp
end Go.Proofs.YtbapdgmcndgieaaGreat
namespace Go.Proofs.YtbapdgmcndgieaaGreat
set_option linter.all false
open Go.RowKit
set_option maxRecDepth 100000
set_option maxHeartbeats 2000000
def zt0 {α : Type} [Inhabited α] (k:Nat) (l:List α):List α := (List.range l.length).map fun i=>if i<k∨l.length-k≤i then l.getD (l.length-1-i) default else l.getD i default
theorem zei {α : Type} [Inhabited α] (k:Nat) (l:List α):(zt0 k l).length=l.length:=by simp[zt0]
theorem zhc {α : Type} [Inhabited α] (k:Nat) (l:List α) (i:Nat) (hi:i<l.length):(zt0 k l).getD i default=if i<k∨l.length-k≤i then l.getD (l.length-1-i) default else l.getD i default:=by
 rw[zad _ _ (by rw[zei];exact hi)];simp[zt0]
theorem z06 {α : Type} [Inhabited α] (l:List α):zt0 0 l=l:=by
 refine zhl (zei 0 l) fun i hi => ?_
 rw[zei]at hi
 rw[zhc 0 l i hi,if_neg (by omega)]
theorem z07 {α : Type} [Inhabited α] (l:List α) (k:Nat) (h:2*k+1<l.length):zt0 (k+1) l=((zt0 k l).set k ((zt0 k l).getD (l.length-1-k) default)).set (l.length-1-k) ((zt0 k l).getD k default):=by
 have hrl:=zei k l
 refine zhl (by simp[zei]) fun i hi => ?_
 rw[zei]at hi
 rw[zha _ _ _ _ (by rw[List.length_set];omega),zha _ _ _ _ (by omega),zhc _ l i hi,zhc k l k (by omega),zhc k l (l.length-1-k) (by omega),zhc k l i hi]
 rw[if_neg (show ¬(l.length-1-k<k∨l.length-k≤l.length-1-k)by omega),if_neg (show ¬(k<k∨l.length-k≤k)by omega)]
 by_cases e1:l.length-1-k=i
 ·rw[if_pos e1,if_pos (by omega)];congr 1;omega
 ·rw[if_neg e1]
  by_cases e2:k=i
  ·rw[if_pos e2,if_pos (by omega)];congr 1;omega
  ·rw[if_neg e2]
   by_cases e3:i<k∨l.length-k≤i
   ·rw[if_pos e3,if_pos (by omega)]
   ·rw[if_neg e3,if_neg (by omega)]
theorem z5c {α : Type} [Inhabited α] (l:List α) (k:Nat) (h:l.length≤2*k+1):zt0 k l=l.reverse:=by
 refine zhl (by rw[zei,List.length_reverse]) fun i hi => ?_
 rw[zei]at hi
 rw[zhc k l i hi,zad _ _ (show i<l.reverse.length by simpa using hi),List.getElem_reverse,←zad l _ (show l.length-1-i<l.length by omega)]
 by_cases e3:i<k∨l.length-k≤i
 ·rw[if_pos e3]
 ·rw[if_neg e3];congr 1;omega
theorem z3p (l:List Cel) (hl:l.length≤1000000):Spec Tryz.prog 158 [.own 0] [.row 41 2 (l.map zaz)] (.tup []) [.row 41 2 (l.reverse.map zaz)]:=by
 refine spB Tryz.func158 28 [] Tryz.results158 ?_
 try refine xst ?_
 refine zas (fun k:Nat=>⟨[(3,I .i64 ((l.length:Int)-1-k)),(2,I .i64 k),(0,.own 0)],[(0,.row 41 2 ((zt0 k l).map zaz))],1⟩) (fun k:Nat=>2*k≤l.length) (fun k:Nat=>l.length-k) (0) (Nat.zero_le _) (To.mk [0] rfl rfl (by decide) ?_ ?_) ?_
 ·simp(etaStruct := .none)only[push_cast,zab,seval,z06]
 ·(iterate 2((try simp(etaStruct := .none)only[push_cast,zab,seval,Int.ofNat_zero,Int.sub_zero]);(try(refine xsu ?_;try exact xtI))))
 rintro k hk
 have hrl:=zei k l
 try refine xst ?_
 refine cI (fun h1 => ?_) fun h1 => ?_
 ·obtain⟨j,hj⟩:∃j:Nat,(l.length:Int)-1-k=(j:Int):=Int.eq_ofNat_of_zero_le (by omega)
  have hjn:j=l.length-1-k:=by omega
  have hs:=z07 l k (by omega)
  rw[←hjn]at hs
  have hk1:k<(zt0 k l).length:=by omega
  have hj1:j<(zt0 k l).length:=by omega
  have hj2:j<((zt0 k l).set k ((zt0 k l).getD j default)).length:=by rw[List.length_set];omega
  iterate 2(try simp(etaStruct := .none)only[push_cast,zab,seval,hj,zaa _ _ _ hk1,zaa _ _ _ hj1,zaz,List.length_set];try refine xsu ?_)
  (try(refine⟨by kernel_rfl,?_⟩))
  iterate 2(try simp(etaStruct := .none)only[push_cast,zab,seval,hj,zaa _ _ _ hk1,zaa _ _ _ hj1,zaz,List.length_set];try refine xsu ?_)
  refine⟨k+1,by omega,by omega,To.mk [0] rfl rfl (by decide) ?_ ?_⟩
  ·(iterate 2((try simp(etaStruct := .none)only[push_cast,zab,seval,hs,List.map_set,zaz]);(try(refine xsu ?_;try exact xtI))))
  ·have e1:(j:Int)-1=(l.length:Int)-1-((k:Int)+1):=by omega
   (try(refine xz1 e1 ?_;try exact xtI))
 ·have hr:=z5c l k (by omega)
  try refine xst ?_
  refine zco [0] rfl rfl (by decide) ⟨?_,trivial⟩ trivial ?_<;>simp(etaStruct := .none)only[push_cast,zab,seval,hr]
def zvc (R:List Int) (f:Fld) (a b:Cel):Int:=if zfw R f a b=0 then R.getD (zau f b) default else 0
theorem zxz (R:List Int) (f:Fld) (a b:Cel):(zfw R f a b≠0∧(zbp f≠0∨¬(inF f a=true∧inF f b=true)∨zag f a=1∨zag f b=1))∨(zbp f=0∧inF f a=true∧inF f b=true∧zag f a≠1∧zag f b≠1∧((zfw R f a b=6∧R.getD (zau f b) default<0)∨(zfw R f a b=0∧0≤R.getD (zau f b) default))):=by
 unfold zfw
 by_cases h1:zbp f=0
 ·rw[if_neg (by simp[h1])]
  by_cases h2:inF f a=true∧inF f b=true
  ·rw[if_neg (fun h=>h h2)]
   by_cases h3:zag f a=1∨zag f b=1
   ·rw[if_pos h3];exact .inl ⟨by decide,.inr (.inr h3)⟩
   ·rw[if_neg h3]
    refine .inr ⟨h1,h2.1,h2.2,fun h=>h3 (.inl h),fun h=>h3 (.inr h),?_⟩
    by_cases h4:R.getD (zau f b) default<0
    ·rw[if_pos h4];exact .inl ⟨rfl,h4⟩
    ·rw[if_neg h4];exact .inr ⟨rfl,by omega⟩
  ·rw[if_pos h2];exact .inl ⟨by decide,.inr (.inl h2)⟩
 ·rw[if_pos h1];exact .inl ⟨h1,.inl h1⟩
def PP (f:Fld) (far:List Int) (c n:Cel):Prop:=(zc5 f n).2=true∧0≤far.getD (zau f n) default∧far.getD (zau f n) default+kV (zag f c)=far.getD (zau f c) default
instance (f:Fld) (far:List Int) (c n:Cel):Decidable (PP f far c n):=by unfold PP;infer_instance
section
variable {f : Fld} {a b c : Cel} {R : List Int} {W H : Nat}
theorem zva (s:Srch f a b R W H) (hf:zbp f=0) (hpa:zag f a≠1) (hc:inF f c=true) (h0:0≤R.getD (zau f c) default):zc5 f c=(kV (zag f c),true):=by
 have epl:zag f c=f.p.getD (zau f c) default:=rfl
 have:zag f c≠1:=by
  rw[epl]
  rcases s.r.why _ (zbr s.w s.h s.w0 hf hc).2 h0 with ⟨w1,_⟩|⟨_,_,_,hr,_⟩
  ·rw[List.mem_singleton]at w1;rw[w1];exact hpa
  ·exact hr
 unfold zc5
 rw[if_pos hc,if_neg this]
theorem z8b (s:Srch f a b R W H) (hf:zbp f=0) (ha:inF f a=true) (hb:inF f b=true) (hpa:zag f a≠1) (hc:inF f c=true) (h0:0≤R.getD (zau f c) default) (hb0:0≤R.getD (zau f b) default) (hcb:R.getD (zau f c) default+zbt b c≤R.getD (zau f b) default) (hfc:(zc6 f a b).1.getD (zau f c) default=R.getD (zau f c) default) {n:Cel} (hn:n∈zaf c) :
 PP f (zc6 f a b).1 c n↔(inF f n=true∧znd R f c n=true) :=
 yaq s.w s.h s.w0 hf s.l s.r ha hpa hc h0 s.ass hcb ((s.end hf ha hb).2 hb0).2 hfc hn
theorem z5h (s:Srch f a b R W H) (hf:zbp f=0) (ha:inF f a=true) (hb:inF f b=true) (hpa:zag f a≠1) (hc:inF f c=true) (h0:0≤R.getD (zau f c) default) (hb0:0≤R.getD (zau f b) default) (hcb:R.getD (zau f c) default+zbt b c≤R.getD (zau f b) default) (hfc:(zc6 f a b).1.getD (zau f c) default=R.getD (zau f c) default)
 {k:Nat} (hk:k<4) (hn:∀i,i<k→¬PP f (zc6 f a b).1 c ((zaf c).getD i default)) (hp:PP f (zc6 f a b).1 c ((zaf c).getD k default)):(zaf c).getD k default=zl9 R f c:=by
 have h4:(zaf c).length=4:=rfl
 have e1:(zaf c).find? (fun n=>decide (PP f (zc6 f a b).1 c n))=some ((zaf c).getD k default):=by
  rw[List.find?_eq_some_iff_getElem]
  refine⟨by simpa using hp,k,by omega,(zad _ _ (by omega)).symm,fun j hj => ?_⟩
  have:=hn j hj
  rw[zad _ _ (by omega)]at this
  simpa using this
 have e2:=zy2 (f:=f) (R:=R) (c:=c) (p:=fun n=>decide (PP f (zc6 f a b).1 c n)) fun n hn=>by
  have:=z8b s hf ha hb hpa hc h0 hb0 hcb hfc hn
  rw[Bool.eq_iff_iff,decide_eq_true_eq,Bool.and_eq_true];exact this
 rw[e1]at e2
 unfold zl9
 rw[←e2];rfl
theorem yie (s:Srch f a b R W H) (hf:zbp f=0) (ha:inF f a=true) (hb:inF f b=true) (hpa:zag f a≠1) (hc:inF f c=true) (h0:0≤R.getD (zau f c) default) (hb0:0≤R.getD (zau f b) default) (hcb:R.getD (zau f c) default+zbt b c≤R.getD (zau f b) default) (hfc:(zc6 f a b).1.getD (zau f c) default=R.getD (zau f c) default)
 (hca:c≠a) (hn:∀i,i<4→¬PP f (zc6 f a b).1 c ((zaf c).getD i default)):False:=by
 obtain⟨_,hm,hin,_,h1,h2⟩:=zwk s.w s.h s.w0 hf s.l s.r ha hc hca h0
 have hms:=(List.mem_filter.1 hm).1
 obtain⟨i,hi,e⟩:=mem_getD.1 hms
 refine hn i hi ?_
 rw[←e]at hms
 rw[z8b s hf ha hb hpa hc h0 hb0 hcb hfc hms,e]
 exact⟨hin,by unfold znd;rw[Bool.and_eq_true,decide_eq_true_eq,decide_eq_true_eq];exact⟨h1,h2⟩⟩
theorem z5s (s:Srch f a b R W H) (hf:zbp f=0) (ha:inF f a=true) (hb:inF f b=true) (hc:inF f c=true) (h0:0≤R.getD (zau f c) default) (hb0:0≤R.getD (zau f b) default) (hcb:R.getD (zau f c) default+zbt b c≤R.getD (zau f b) default) (hca:c≠a) :
 inF f (zl9 R f c)=true∧0≤R.getD (zau f (zl9 R f c)) default∧R.getD (zau f (zl9 R f c)) default+2≤R.getD (zau f c) default∧R.getD (zau f (zl9 R f c)) default+zbt b (zl9 R f c)≤R.getD (zau f b) default∧(zc6 f a b).1.getD (zau f (zl9 R f c)) default=R.getD (zau f (zl9 R f c)) default:=by
 obtain⟨_,hm,hin,hadj,h1,h2⟩:=zwk s.w s.h s.w0 hf s.l s.r ha hc hca h0
 have hkv:=zuh (zag f c)
 have hcons:=zp1 s.w s.h s.w0 b
 rw[←s.l]at hcons
 obtain⟨en,hnL⟩:=zbr s.w s.h s.w0 hf hin
 obtain⟨ec,hcL⟩:=zbr s.w s.h s.w0 hf hc
 have hle:=hcons _ _ hnL hcL hadj.symm
 simp only at hle
 rw[←en,←ec]at hle
 refine⟨hin,h1,by omega,by omega,?_⟩
 exact s.ass.known hcons (zbr s.w s.h s.w0 hf ha).2 s.r hnL h1 (fun x hx=>by have:=((s.end hf ha hb).2 hb0).2 x hx;rw[←en];omega)
theorem z0y (s:Srch f a b R W H) (hl:f.p.length≤1600) (p:Nat) (hp:p<f.p.length) : -1≤(zc6 f a b).1.getD p default∧(zc6 f a b).1.getD p default≤4800:=by
 have h1:=s.ass.low p hp
 have h2:=s.ass.top p hp
 have h3:=zgp zff 1 zgw (zc6 f a b).1
 rw[s.ass.len]at h3
 omega
end
theorem cel_ne {c a:Cel} : ¬(c.x=a.x∧c.y=a.y)↔c≠a:=by
 obtain⟨x,y⟩:=c;obtain⟨u,v⟩:=a;simp
theorem z1b (f:Fld) (a b:Cel) (hl:f.p.length≤9223372036854775807) (R:List Int) (hR:zai f [a] R):Spec Tryz.prog 175 [znh f,zem a,zem b] [] (.tup [.c (.sl 2 ((if zfw R f a b=0 then zvb R f a b else []).map zaz)),I .i64 (zvc R f a b),I .i64 (zfw R f a b)]) []:=by
 rcases zxz R f a b with ⟨hE,hbad⟩|⟨hf,ha,hb,hpa,hpb,⟨hE,h0⟩|⟨hE,h0⟩⟩
 ·have e:zvc R f a b=0:=if_neg hE
  rw[if_neg hE]
  refine spB Tryz.func175 107 [.tmp 6,.tmp 7,.tmp 8] Tryz.results175 ?_
  try refine xst ?_
  refine caP (ztu f a b hl hbad R) ?_
  try refine xst ?_
  refine cI (fun h1 => ?_) fun h1 => ?_
  ·skip
   try refine xst ?_
   (first|(refine zar rfl (Wk.of ?_);(try simp(etaStruct := .none)only[push_cast,zab,seval]);first|done|(simp[e, *];done)|(simp_all[e];done))|(refine zar rfl ?_;(try simp(etaStruct := .none)only[push_cast,zab,seval]);(try simp[e, *]);(try exact wkc)))
  ·exact absurd h1 hE
 ·have e:zvc R f a b=0:=if_neg (by rw[hE];decide)
  rw[e,hE,if_neg (by decide)]
  refine spB Tryz.func175 107 [.tmp 6,.tmp 7,.tmp 8] Tryz.results175 ?_
  try refine xst ?_
  refine caP (zrg f a b hl hf ha hb hpa hpb hR h0) ?_
  try refine xst ?_
  refine cI (fun h1 => ?_) fun h1 => ?_
  ·try refine xst ?_
   exact xrz rfl
  ·exact absurd h1 (by decide)
 ·have e:zvc R f a b=R.getD (zau f b) default:=if_pos hE
  obtain⟨W,H,s⟩:=yc5 (b:=b) hf ha hpa hR
  have hend:=(s.end hf ha hb).2 h0
  have hbF:zau f b<(zc6 f a b).1.length:=by rw[s.ass.len];exact(zbr s.w s.h s.w0 hf hb).2
  have hpx:=za8 hf ha
  rw[e,hE,if_pos rfl]
  refine spB Tryz.func175 107 [.tmp 6,.tmp 7,.tmp 8] Tryz.results175 ?_
  (iterate 2((try simp(etaStruct := .none)only[push_cast,seval]);(try(refine xsu ?_;try exact xtI))))
  refine caM [] (ztt f a b hl hf ha hb hpa hpb hR h0) ?_
  (iterate 2((try simp(etaStruct := .none)only[push_cast,seval]);(try(refine xsu ?_;try exact xtI))))
  refine cI (fun h1 => ?_) fun h1 => ?_
  ·exact absurd h1 (by decide)
  ·(iterate 2((try simp(etaStruct := .none)only[push_cast,seval]);(try(refine xsu ?_;try exact xtI))))
   refine zas (fun x:Nat × Cel × List Cel=>⟨[(12,.ptr 5 0 0),(11,.own 6),(9,.ptr 0 0 0),(5,.ptr 4 0 0),(4,.ptr 3 0 0)],[(0,srB f b (.own 1) (.own 2)),(1,.row 3 1 ((zc6 f a b).1.map zac)),(2,.row 281 4 ((zc6 f a b).2.map zci)),(3,.blk 41 [I .i64 a.x,I .i64 a.y]),(4,.blk 41 [I .i64 b.x,I .i64 b.y]),(5,.blk 41 [I .i64 x.2.1.x,I .i64 x.2.1.y]),(6,.row 41 2 (x.2.2.map zaz))],7⟩) (fun x:Nat × Cel × List Cel=>inF f x.2.1=true∧0≤R.getD (zau f x.2.1) default∧R.getD (zau f x.2.1) default≤x.1∧(zc6 f a b).1.getD (zau f x.2.1) default=R.getD (zau f x.2.1) default∧R.getD (zau f x.2.1) default+zbt b x.2.1≤R.getD (zau f b) default∧x.2.2++zq4 R f a x.1 x.2.1=b::zq4 R f a (R.getD (zau f b) default).toNat b∧x.2.2.length+x.1≤4801) (fun x:Nat × Cel × List Cel=>x.1) (((R.getD (zau f b) default).toNat,b,[b])) (⟨hb,h0,by simp only;omega,hend.1,by simp only[zbt];omega,rfl,by have:=(z0y s hpx.2.2.2.2 _ (show zau f b<f.p.length by rw[←s.ass.len];exact hbF)).2;rw[hend.1]at this;simp only[List.length_singleton];omega⟩) (To.mk [3,4,5,1,2,7,6] rfl rfl (by decide) ?_ ?_) ?_
   ·(iterate 2((try simp(etaStruct := .none)only[push_cast,zab,seval,srB,zaz]);(try(refine xsu ?_;try exact xtI))))
   ·simp(etaStruct := .none)only[push_cast,zab,seval]
   rintro⟨N,c,out⟩ ⟨hc,hc0,hcN,hfc,hcb,hway,hlen⟩
   simp only at hc hc0 hcN hfc hcb hway hlen
   (iterate 2((try simp(etaStruct := .none)only[push_cast,seval]);(try(refine xsu ?_;try exact xtI))))
   refine cI (fun h2 => ?_) fun h2 => ?_
   ·have hca:c≠a:=cel_ne.1 (fun h=>by rcases h2 with h2|h2;exact h2 h.1;exact h2 h.2)
    have hwc:=zva s hf hpa hc hc0
    have hci:=inF_iff.1 hc
    have hfo:=zba hf
    have hkv:=zuh (zag f c)
    have hcF:zau f c<(zc6 f a b).1.length:=by rw[s.ass.len];exact(zbr s.w s.h s.w0 hf hc).2
    obtain⟨n1,n2,n3,n4,n5⟩:=z5s s hf ha hb hc hc0 h0 hcb hca
    obtain⟨M,rfl⟩:∃M,N=M+1:=⟨N-1,by omega⟩
    (iterate 2((try simp(etaStruct := .none)only[push_cast,seval]);(try(refine xsu ?_;try exact xtI))))
    refine zbv (zt7 f b (zc6 f a b).1 (zc6 f a b).2 c hf) (WkL.refl _) rfl ?_
    rw[hwc]
    (iterate 2((try simp(etaStruct := .none)only[push_cast,seval]);(try(refine xsu ?_;try exact xtI))))
    refine caP (zv9 c (by omega) (by omega)) ?_
    (iterate 2((try simp(etaStruct := .none)only[push_cast,seval]);(try(refine xsu ?_;try exact xtI))))
    refine zas (fun k:Nat=>⟨[(43,I .i64 k),(42,.agg [I .i64 c.x,I .i64 (c.y-1),I .i64 (c.x-1),I .i64 c.y,I .i64 (c.x+1),I .i64 c.y,I .i64 c.x,I .i64 (c.y+1)]),(13,I .i64 (kV (zag f c))),(12,.ptr 5 0 0),(11,.own 6),(9,.ptr 0 0 0),(5,.ptr 4 0 0),(4,.ptr 3 0 0)],[(0,srB f b (.own 1) (.own 2)),(1,.row 3 1 ((zc6 f a b).1.map zac)),(2,.row 281 4 ((zc6 f a b).2.map zci)),(3,.blk 41 [I .i64 a.x,I .i64 a.y]),(4,.blk 41 [I .i64 b.x,I .i64 b.y]),(5,.blk 41 [I .i64 c.x,I .i64 c.y]),(6,.row 41 2 (out.map zaz))],7⟩) (fun k:Nat=>k≤4∧∀i,i<k→¬PP f (zc6 f a b).1 c ((zaf c).getD i default)) (fun k:Nat=>4-k) (0) (⟨Nat.zero_le _,fun i h=>absurd h (Nat.not_lt_zero _)⟩) (To.mk [0,1,2,3,4,5,6] rfl rfl (by decide) ?_ ?_) ?_
    ·simp(etaStruct := .none)only[push_cast,zab,seval]
    ·simp(etaStruct := .none)only[push_cast,zab,seval]
    rintro k ⟨hk,hno⟩
    (iterate 2((try simp(etaStruct := .none)only[push_cast,seval]);(try(refine xsu ?_;try exact xtI))))
    refine cI (fun h3 => ?_) fun h3 => ?_
    ·have hlt:k<4:=by omega
     have hsc:=zlm c k hlt
     have hgG:yb0 f ((zaf c).getD k default)<(zc6 f a b).1.length:=by rw[s.ass.len];exact z2n hf _
     have hbG:=z0y s hpx.2.2.2.2 (yb0 f ((zaf c).getD k default)) (by rw[←s.ass.len];exact hgG)
     (iterate 2((try simp(etaStruct := .none)only[push_cast,seval,hsc,zaa _ _ _ hgG,zaa _ _ _ hcF,zac]);(try(refine xsu ?_;try exact xtI))))
     refine zbv (zt7 f b (zc6 f a b).1 (zc6 f a b).2 ((zaf c).getD k default) hf) (WkL.refl _) rfl ?_
     (iterate 2((try simp(etaStruct := .none)only[push_cast,seval,hsc,zaa _ _ _ hgG,zaa _ _ _ hcF,zac]);(try(refine xsu ?_;try exact xtI))))
     refine zbi [some 52,some 53,some 54,some 55,some 56,some 57,some 58,some 59,some 60,some 61,some 62,some 63,some 64,some 65,some 66,some 67,some 68,some 69,some 70,some 71,some 72,some 73,some 74,some 75,some 76,some 77,some 78,some 79,some 80,some 81,some 82,some 83,some 84,some 85,some 86,some 87] rfl ?_
     intro Oq lq Rq hlq hdq hRq
     subst hlq
     iterate 8(refine za2 fun rq hrq => ?_;(iterate 2((try simp(etaStruct := .none)only[push_cast,seval,hdq,id,hsc,zaa _ _ _ hgG,zaa _ _ _ hcF,zac]);(try(refine xsu ?_;try exact xtI))));subst hrq)
     refine za2 fun rq hrq => ?_
     (iterate 2((try simp(etaStruct := .none)only[push_cast,seval,hdq,id,hsc,zaa _ _ _ hgG,zaa _ _ _ hcF,zac]);(try(refine xsu ?_;try exact xtI))))
     refine zg2 (fun hcc=>zl5 f b (zc6 f a b).1 (zc6 f a b).2 ((zaf c).getD k default) hf hcc) (WkL.refl _) rfl (by intro hc;(try simp(etaStruct := .none)only[push_cast,zab,seval]);(try simp_all)) ?_
     (iterate 2((try simp(etaStruct := .none)only[push_cast,seval,hdq,id,hsc,zaa _ _ _ hgG,zaa _ _ _ hcF,zac]);(try(refine xsu ?_;try exact xtI))))
     subst hrq
     iterate 11(refine za2 fun rq hrq => ?_;(iterate 2((try simp(etaStruct := .none)only[push_cast,seval,hdq,id,hsc,zaa _ _ _ hgG,zaa _ _ _ hcF,zac]);(try(refine xsu ?_;try exact xtI))));subst hrq)
     refine za2 fun rq hrq => ?_
     (iterate 2((try simp(etaStruct := .none)only[push_cast,seval,hdq,id,hsc,zaa _ _ _ hgG,zaa _ _ _ hcF,zac]);(try(refine xsu ?_;try exact xtI))))
     refine zg2 (fun hcc=>zl5 f b (zc6 f a b).1 (zc6 f a b).2 ((zaf c).getD k default) hf (by simp only[Bool.and_eq_true]at hcc;exact hcc.1)) (WkL.refl _) rfl (by intro hc;(try simp(etaStruct := .none)only[push_cast,zab,seval]);(try simp_all)) ?_
     (iterate 2((try simp(etaStruct := .none)only[push_cast,seval,hdq,id,hsc,zaa _ _ _ hgG,zaa _ _ _ hcF,zac]);(try(refine xsu ?_;try exact xtI))))
     subst hrq
     iterate 10(refine za2 fun rq hrq => ?_;(iterate 2((try simp(etaStruct := .none)only[push_cast,seval,hdq,id,hsc,zaa _ _ _ hgG,zaa _ _ _ hcF,zac]);(try(refine xsu ?_;try exact xtI))));subst hrq)
     refine za2 fun rq hrq => ?_
     (iterate 2((try simp(etaStruct := .none)only[push_cast,seval,hdq,id,hsc,zaa _ _ _ hgG,zaa _ _ _ hcF,zac]);(try(refine xsu ?_;try exact xtI))))
     refine zg2 (fun hcc=>zfa f b (zc6 f a b).1 (zc6 f a b).2 c hf hc) (WkL.refl _) rfl (by intro hc;(try simp(etaStruct := .none)only[push_cast,zab,seval]);(try simp_all)) ?_
     (iterate 2((try simp(etaStruct := .none)only[push_cast,seval,hdq,id,hsc,zaa _ _ _ hgG,zaa _ _ _ hcF,zac]);(try(refine xsu ?_;try exact xtI))))
     subst hrq
     iterate 4(refine za2 fun rq hrq => ?_;(iterate 2((try simp(etaStruct := .none)only[push_cast,seval,hdq,id,hsc,zaa _ _ _ hgG,zaa _ _ _ hcF,zac]);(try(refine xsu ?_;try exact xtI))));subst hrq)
     refine zjo ?_
     subst hRq
     clear hdq Oq
     refine zjn (by kernel_rfl) ?_
     (iterate 2((try simp(etaStruct := .none)only[push_cast,seval,hsc,zaa _ _ _ hgG,zaa _ _ _ hcF,zac]);(try(refine xsu ?_;try exact xtI))))
     refine cI (fun h4 => ?_) fun h4 => ?_
     ·have hin2:inF f ((zaf c).getD k default)=true:=by
       cases hi:inF f ((zaf c).getD k default)with
       | true=>rfl
       | false=>have:=h4.1.1;unfold zc5 at this;rw[hi]at this;simp at this
      have hPP:PP f (zc6 f a b).1 c ((zaf c).getD k default):=⟨h4.1.1,by rw[←zj5 hin2];exact h4.1.2,by rw[←zj5 hin2];exact h4.2⟩
      have hnk:=z5h s hf ha hb hpa hc hc0 h0 hcb hfc hlt hno hPP
      rw[zq4,if_neg hca]at hway
      (iterate 2((try simp(etaStruct := .none)only[push_cast,seval,hsc,zaa _ _ _ hgG,zaa _ _ _ hcF,zac,hnk]);(try(refine xsu ?_;try exact xtI))))
      refine⟨(M,zl9 R f c,out ++ [zl9 R f c]),⟨n1,n2,by simp only;omega,n5,n4,by simp only;rw[List.append_assoc];exact hway,by simp only[List.length_append,List.length_singleton];omega⟩,by simp only;omega,To.mk [0,1,2,3,4,154,153] rfl rfl (by decide) ?_ ?_⟩
      ·(iterate 2((try simp(etaStruct := .none)only[push_cast,zab,seval,List.map_append,zaz]);(try(refine xsu ?_;try exact xtI))))
      ·(iterate 2((try simp(etaStruct := .none)only[push_cast,seval,hsc,zaa _ _ _ hgG,zaa _ _ _ hcF,zac,hnk]);(try(refine xsu ?_;try exact xtI))))
     ·have hno2:∀i,i<k+1→¬PP f (zc6 f a b).1 c ((zaf c).getD i default):=fun i hi=>by
       rcases Nat.lt_or_ge i k with h|h
       ·exact hno i h
       ·obtain rfl:i=k:=by omega
        rintro⟨p1,p2,p3⟩
        have hin2:inF f ((zaf c).getD i default)=true:=by
         cases hi:inF f ((zaf c).getD i default)with
         | true=>rfl
         | false=>unfold zc5 at p1;rw[hi]at p1;simp at p1
        rw[←zj5 hin2]at p2 p3
        rcases h4 with (h4|h4)|h4
        ·rw[p1]at h4;exact absurd h4 (by decide)
        ·omega
        ·exact h4 p3
      (iterate 2((try simp(etaStruct := .none)only[push_cast,seval,hsc,zaa _ _ _ hgG,zaa _ _ _ hcF,zac]);(try(refine xsu ?_;try exact xtI))))
      refine⟨k+1,⟨by omega,hno2⟩,by omega,To.mk [0,1,2,3,4,5,6] rfl rfl (by decide) ?_ ?_⟩
      ·(iterate 2((try simp(etaStruct := .none)only[push_cast,seval,hsc,zaa _ _ _ hgG,zaa _ _ _ hcF,zac]);(try(refine xsu ?_;try exact xtI))))
      ·(iterate 2((try simp(etaStruct := .none) (maxSteps:=1000000)only[push_cast,zab,seval]);(try(refine xsu ?_;try exact xtI))))
    ·obtain rfl:k=4:=by omega
     exact(yie s hf ha hb hpa hc hc0 h0 hcb hfc hca hno).elim
   ·have hca:c=a:=Decidable.byContradiction fun h=>cel_ne.2 h h2
    have hout:out=b::zq4 R f a (R.getD (zau f b) default).toNat b:=by
     have e0:zq4 R f a N c = []:=by
      cases N with
      | zero=>rfl
      | succ N=>rw[zq4,if_pos hca]
     rw[←hway,e0,List.append_nil]
    have hov:out.reverse=zvb R f a b:=by unfold zvb;rw[hout]
    (iterate 2((try simp(etaStruct := .none)only[push_cast,seval,zaa _ _ _ hbF,zac,hend.1,hov]);(try(refine xsu ?_;try exact xtI))))
    refine caM [6] (z3p out (by omega)) ?_
    (iterate 2((try simp(etaStruct := .none)only[push_cast,seval,zaa _ _ _ hbF,zac,hend.1,hov]);(try(refine xsu ?_;try exact xtI))))
    refine zbi [some 97,some 98,some 99,some 100,some 101,some 102,some 103,some 104,some 105,some 106,some 6,some 7,some 8] rfl ?_
    intro Oq lq Rq hlq hdq hRq
    subst hlq
    iterate 7(refine za2 fun rq hrq => ?_;(iterate 2((try simp(etaStruct := .none)only[push_cast,seval,hdq,id,zaa _ _ _ hbF,zac,hend.1,hov]);(try(refine xsu ?_;try exact xtI))));subst hrq)
    refine za2 fun rq hrq => ?_
    (iterate 2((try simp(etaStruct := .none)only[push_cast,seval,hdq,id,zaa _ _ _ hbF,zac,hend.1,hov]);(try(refine xsu ?_;try exact xtI))))
    refine zbv (zfa f b (zc6 f a b).1 (zc6 f a b).2 b hf hb) (WkL.refl _) rfl ?_
    (iterate 2((try simp(etaStruct := .none)only[push_cast,seval,hdq,id,zaa _ _ _ hbF,zac,hend.1,hov]);(try(refine xsu ?_;try exact xtI))))
    subst hrq
    iterate 5(refine za2 fun rq hrq => ?_;(iterate 2((try simp(etaStruct := .none)only[push_cast,seval,hdq,id,zaa _ _ _ hbF,zac,hend.1,hov]);(try(refine xsu ?_;try exact xtI))));subst hrq)
    refine zjo ?_
    subst hRq
    clear hdq Oq
    refine zjn (by kernel_rfl) ?_
    (iterate 2((try simp(etaStruct := .none)only[push_cast,seval,zaa _ _ _ hbF,zac,hend.1,hov]);(try(refine xsu ?_;try exact xtI))))
    exact xrz rfl
end Go.Proofs.YtbapdgmcndgieaaGreat
