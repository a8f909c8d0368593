/- Lemmas for the proof of topCouncil.proved. -/
import Derived.Test.YtmjbgbmegbkmhaaGreatTCo4
import Derived.Lib.VarintBits
import Derived.Lib.ConvBytes
import Derived.Laws.IdiomStrings
import Derived.Shelf.Strings.Builder1
import Derived.Shelf.Small.Wraps
import Derived.Shelf.Strings.BuilderF
import Derived.Shelf.Bits.Mul64
import Derived.Ground.Names2Prog
import Derived.Shelf.Slices.SearchI
import Derived.Shelf.Slices.Delete
import Derived.Test.YtmjbgbmegbkmhaaGreatProg
import Derived.Deep.QuietTactic
import Derived.BigQuiet
import Derived.Laws.Concat
import Derived.Lib.Zigzag
import Derived.Laws.BytesString
import Derived.Lib.Varint
import Derived.Deep.RegionHeld3
import Derived.Laws.Externs
import Derived.Laws.IdiomCopy
import Derived.Shelf.Spec.SlicesInsertGrow
namespace Go.Proofs.YtmjbgbmegbkmhaaGreat
set_option linter.all false
open Go.RowKit
theorem RelL.setAt {U F:Nat→Prop} {β : Nat→Option Bind} {w:World} {y:AV} : ∀ {cs:List AV} {us:List Value} (j:Nat),RelL U w F β cs us→(∀u,us[j]? = some u→RelA U w F β y u)→RelL U w F β (cs.set j y) us
 | [],us,j,h,_=>by simpa using h
 | x::r,us,j,h,hy=>by
  simp only[RelL]at h
  obtain⟨u,us',rfl,h1,h2⟩:=h
  cases j with
  | zero=>simp only[List.set_cons_zero,RelL];exact⟨u,us',rfl,hy u rfl,h2⟩
  | succ j=>simp only[List.set_cons_succ,RelL];exact⟨u,us',rfl,h1,RelL.setAt j h2 (fun v hv=>hy v (by simpa using hv))⟩
theorem To.nilC {k:Nat} {s:St} (id j e sz tt:Nat) (cs:List AV) (hc:zaf s.h id = .blk tt cs) (hj:cs[j]? = some (.c (.v (.slice none 0 0)))):ToK k s ⟨s.t,(s.n,.row e sz [])::(id,.blk tt (cs.set j (.own s.n)))::s.h,s.n+1⟩:=by
 intro H F β a w hk C
 obtain⟨bd0,hb1,hb2⟩:=C.m.ch id (by rw[hc];simp)
 have hidn:id≠s.n:=fun h=>absurd (C.m.used _ _ hb1) (by rw[h];exact Nat.lt_irrefl _)
 obtain⟨M,E⟩:=C.m.step (w':=w) (h':=zaf ((s.n,.row e sz [])::(id,.blk tt (cs.set j (.own s.n)))::s.h)) (β':=zaq β s.n (some ⟨.slice none 0 0,none,0,sz,[]⟩)) (F':=F) (U':=(· < s.n+1)) (fun i=>i=s.n∨i=id)
  (fun i hi=>by simp only[not_or]at hi;simp[zaq,Ne.symm hi.1]) (fun i hi=>by simp only[not_or]at hi;simp[zaf,Ne.symm hi.1,Ne.symm hi.2]) rfl rfl rfl (Nat.le_refl _) (fun _ _ _=>rfl) (fun i hi=>Nat.lt_succ_of_lt hi) (fun b hb=>hb)
  (fun b hb=>⟨C.m.fin b hb,.inl hb⟩)
  (fun i bd' hi hu hb=>by
   rcases hi with rfl|rfl
   ·exact absurd hu (Nat.lt_irrefl _)
   ·exact⟨_,by simpa[zaq,Ne.symm hidn]using hb⟩)
  (fun i bd' hi hb=>by
   rcases hi with rfl|rfl
   ·simp only[zaq,if_true,Option.some.injEq]at hb
    subst hb
    exact⟨Nat.lt_succ_self _,fun b hb=>by have:=Bind.has_nil hb;simp at this⟩
   ·have hb' : β i=some bd':=by simpa[zaq,Ne.symm hidn]using hb
    refine⟨Nat.lt_succ_of_lt (C.m.used _ _ hb'),fun b hbb => ?_⟩
    obtain⟨p1,p2,p3⟩:=C.m.off _ _ _ hb' hbb
    exact⟨p2,p1,.inr ⟨i,bd',.inr rfl,hb',hbb⟩⟩)
  (fun i j' bi bj b hi hj' hbi hbj h1 h2=>by
   rcases hi with rfl|rfl<;>rcases hj' with rfl|rfl
   ·rfl
   ·simp only[zaq,if_true,Option.some.injEq]at hbi;subst hbi;have:=Bind.has_nil h1;simp at this
   ·simp only[zaq,if_true,Option.some.injEq]at hbj;subst hbj;have:=Bind.has_nil h2;simp at this
   ·rfl)
  (fun E i hi _=>by
   rcases hi with rfl|rfl
   ·refine⟨⟨.slice none 0 0,none,0,sz,[]⟩,by simp[zaq],?_⟩
    simp only[zaf,if_true,ChOk]
    simp
   ·refine⟨bd0,by simpa[zaq,Ne.symm hidn]using hb1,?_⟩
    have hb2':=ChOk.mono E (fun g _=>rfl) hb2
    rw[hc]at hb2'
    simp only[zaf,if_true,Ne.symm hidn,if_false]
    obtain⟨q1,q2,g,vs,q3,q4,q5,q6,q7⟩:=hb2'
    refine⟨by rw[List.length_set];exact q1,q2,g,vs,q3,q4,q5,RelL.setAt j q6 (fun u hu => ?_),q7⟩
    obtain⟨u',hu',hr⟩:=q6.at j _ hj
    rw[hu]at hu';cases hu'
    rw[relC]at hr
    simp only[RelA]
    rw[hr.1]
    refine⟨Nat.lt_succ_self _,rfl,fun bd hb => ?_⟩
    simp only[zaq,if_true,Option.some.injEq]at hb
    subst hb;rfl)
 refine⟨F,zaq β s.n (some ⟨.slice none 0 0,none,0,sz,[]⟩),fun t'=>RelA.mono E _ _ (C.t t'),M,C.nt,C.d,C.f,C.g,fun i bd' hi hb => ?_,Nat.le_succ_of_le C.k⟩
 refine C.e i bd' hi ?_
 have:s.n≠i:=by have:=C.k;omega
 simpa[zaq,this]using hb
theorem To.cutC {k:Nat} {s:St} (bid j id l e sz tt:Nat) (cs:List AV) (xs:List (List PV)) (hc:zaf s.h bid = .blk tt cs) (hj:cs[j]? = some (.view id 0 l)) (hr:zaf s.h id = .row e sz xs) (hl:l≤xs.length) :
 ToK k s ⟨s.t,(s.n,.row e sz (xs.take l))::(id,.dead)::(bid,.blk tt (cs.set j (.own s.n)))::s.h,s.n+1⟩:=by
 intro H F β a w hk C
 obtain⟨bd0,hb1,hb2⟩:=C.m.ch bid (by rw[hc];simp)
 obtain⟨bd1,hr1,hr2⟩:=C.m.ch id (by rw[hr];simp)
 have hbn:bid≠s.n:=fun h=>absurd (C.m.used _ _ hb1) (by rw[h];exact Nat.lt_irrefl _)
 have hin:id≠s.n:=fun h=>absurd (C.m.used _ _ hr1) (by rw[h];exact Nat.lt_irrefl _)
 have hbi:bid≠id:=fun h=>by rw[h,hr]at hc;simp at hc
 have hb2':=hb2
 rw[hc]at hb2'
 obtain⟨q1,q2,g0,vs,q3,q4,q5,q6,q7⟩:=hb2'
 obtain⟨u,hu,hv⟩:=q6.at j _ hj
 simp only[RelA]at hv
 obtain⟨_,hone,hv⟩:=hv
 obtain⟨va,vc,rfl,hvl,hvc,hvm,hvg,hvn⟩:=hv bd1 hr1
 obtain⟨vn,hvn⟩:=hvn trivial
 have hr3:=hr2
 rw[hr]at hr3
 obtain⟨p1,p2,p3,p4⟩:=hr3
 have nb:∃b,(⟨.slice va l vc,b,l,sz,[]⟩:Bind).b=bd1.b∧((b=none∧l=0∧(Value.slice va l vc) = .slice none 0 0)∨∃g cur,b=some g∧va=some ⟨g,0,none⟩∧w.heap[g]? = some (.cells cur e (0,0))∧l≤vc∧vc≤maxLen∧cur.size=vc*sz∧RelE w F g sz 0 (xs.take l)):=by
  refine⟨bd1.b,rfl,?_⟩
  rcases p4 with ⟨h1,h2,h3⟩|⟨g,cap,cur,h1,h2,h3,h4,h5,h6,h7⟩
  ·rw[h3]at hvn
   simp only[Value.slice.injEq]at hvn
   obtain⟨rfl,_,rfl⟩:=hvn
   have:l=0:=by subst h2;simpa using hl
   subst this
   exact .inl ⟨h1,rfl,rfl⟩
  ·rw[h2]at hvn
   simp only[Value.slice.injEq]at hvn
   obtain⟨rfl,_,rfl⟩:=hvn
   refine .inr ⟨g,cur,h1,rfl,h3,hvc,hvm,h6,?_⟩
   refine RelE.of fun i cs' hi => ?_
   rw[List.getElem?_take]at hi
   split at hi
   ·exact RelE.at h7 i cs' hi
   ·simp at hi
 obtain⟨nbb,hnb,hnc⟩:=nb
 obtain⟨M,E⟩:=C.m.step (w':=w) (h':=zaf ((s.n,.row e sz (xs.take l))::(id,.dead)::(bid,.blk tt (cs.set j (.own s.n)))::s.h)) (β':=zaq (zaq β id none) s.n (some ⟨.slice va l vc,nbb,l,sz,[]⟩)) (F':=F) (U':=(· < s.n+1)) (fun i=>i=s.n∨i=id∨i=bid)
  (fun i hi=>by simp only[not_or]at hi;simp[zaq,Ne.symm hi.1,Ne.symm hi.2.1]) (fun i hi=>by simp only[not_or]at hi;simp[zaf,Ne.symm hi.1,Ne.symm hi.2.1,Ne.symm hi.2.2]) rfl rfl rfl (Nat.le_refl _) (fun _ _ _=>rfl) (fun i hi=>Nat.lt_succ_of_lt hi) (fun b hb=>hb)
  (fun b hb=>⟨C.m.fin b hb,.inl hb⟩)
  (fun i bd' hi hu hb=>by
   rcases hi with rfl|rfl|rfl
   ·exact absurd hu (Nat.lt_irrefl _)
   ·simp[zaq,Ne.symm hin]at hb
   ·exact⟨_,by simpa[zaq,Ne.symm hbn,Ne.symm hbi]using hb⟩)
  (fun i bd' hi hb=>by
   rcases hi with rfl|rfl|rfl
   ·simp only[zaq,if_true,Option.some.injEq]at hb
    subst hb
    refine⟨Nat.lt_succ_self _,fun b hbb => ?_⟩
    have hbb':bd1.b=some b:=by rw[←hnb];exact Bind.has_nil hbb
    obtain⟨r1,r2,r3⟩:=C.m.off _ _ _ hr1 (.inl hbb')
    exact⟨r2,r1,.inr ⟨id,bd1,.inr (.inl rfl),hr1,.inl hbb'⟩⟩
   ·simp[zaq,Ne.symm hin]at hb
   ·have hb' : β i=some bd':=by simpa[zaq,Ne.symm hbn,Ne.symm hbi]using hb
    refine⟨Nat.lt_succ_of_lt (C.m.used _ _ hb'),fun b hbb => ?_⟩
    obtain⟨p1,p2,p3⟩:=C.m.off _ _ _ hb' hbb
    exact⟨p2,p1,.inr ⟨i,bd',.inr (.inr rfl),hb',hbb⟩⟩)
  (fun i j' bi bj b hi hj' hbi2 hbj h1 h2=>by
   have old:∀i' bd',i'=bid→(zaq (zaq β id none) s.n (some ⟨.slice va l vc,nbb,l,sz,[]⟩)) i'=some bd' → β bid=some bd':=by
    intro i' bd' h hb;subst h;simpa[zaq,Ne.symm hbn,Ne.symm hbi]using hb
   rcases hi with rfl|rfl|rfl<;>rcases hj' with rfl|rfl|rfl
   ·rfl
   ·simp[zaq,Ne.symm hin]at hbj
   ·simp only[zaq,if_true,Option.some.injEq]at hbi2;subst hbi2
    have:=C.m.dis id j' bd1 bj b hr1 (old _ _ rfl hbj) (.inl (by rw[←hnb];exact Bind.has_nil h1)) h2
    exact absurd this.symm hbi
   ·simp[zaq,Ne.symm hin]at hbi2
   ·rfl
   ·simp[zaq,Ne.symm hin]at hbi2
   ·simp only[zaq,if_true,Option.some.injEq]at hbj;subst hbj
    have:=C.m.dis i id bi bd1 b (old _ _ rfl hbi2) hr1 h1 (.inl (by rw[←hnb];exact Bind.has_nil h2))
    exact absurd this hbi
   ·simp[zaq,Ne.symm hin]at hbj
   ·rfl)
  (fun E i hi hd=>by
   rcases hi with rfl|rfl|rfl
   ·refine⟨⟨.slice va l vc,nbb,l,sz,[]⟩,by simp[zaq],?_⟩
    simp only[zaf,if_true,ChOk]
    refine⟨⟨trivial,trivial⟩,by rw[List.length_take];omega,fun cs' hcs=>p3 cs' (List.mem_of_mem_take hcs),?_⟩
    rcases hnc with ⟨h1,h2,h3⟩|⟨g,cur,h1,h2,h3,h4,h5,h6,h7⟩
    ·exact .inl ⟨h1,by rw[h2];rfl,h3⟩
    ·refine .inr ⟨g,vc,cur,h1,?_,h3,?_,h5,h6,h7⟩
     ·rw[h2,List.length_take,Nat.min_eq_left hl]
     ·rw[List.length_take,Nat.min_eq_left hl];exact h4
   ·simp[zaf,Ne.symm hin]at hd
   ·refine⟨bd0,by simpa[zaq,Ne.symm hbn,Ne.symm hbi]using hb1,?_⟩
    have hb3:=ChOk.mono E (fun g _=>rfl) hb2
    rw[hc]at hb3
    simp only[zaf,if_true,Ne.symm hbn,Ne.symm hbi,if_false]
    obtain⟨q1,q2,g,vs',q3',q4,q5',q6',q7⟩:=hb3
    have hg:g=g0:=by rw[q3]at q3';exact(Option.some.inj q3').symm
    subst hg
    have hvs:vs'=vs:=by rw[q5]at q5';simpa using q5'.symm
    subst hvs
    refine⟨by rw[List.length_set];exact q1,q2,g,vs',q3',q4,q5',RelL.setAt j q6' (fun u hu2 => ?_),q7⟩
    rw[hu]at hu2
    obtain rfl:=Option.some.inj hu2
    simp only[RelA]
    refine⟨Nat.lt_succ_self _,rfl,fun bd hb => ?_⟩
    simp only[zaq,if_true,Option.some.injEq]at hb
    subst hb;rfl)
 refine⟨F,_,fun t'=>RelA.mono E _ _ (C.t t'),M,C.nt,C.d,C.f,C.g,fun i bd' hi hb => ?_,Nat.le_succ_of_le C.k⟩
 have h1:s.n≠i:=by have:=C.k;omega
 by_cases h2:id=i
 ·subst h2;simp[zaq,h1]at hb
 ·exact C.e i bd' hi (by simpa[zaq,h1,h2]using hb)
theorem zwo {P:Program} {c:Bool} {f:FuncId} {args:List AV} {φ : Prop} {h:Nat→Chunk} {m:Nat} {K:Eff→Prop} (hc:c=false) (k:K ⟨.undef,[],0⟩):zza P c f args φ h m K := .inr ⟨fun h=>absurd (hc.symm.trans h) (by decide),fun _=>k⟩
theorem To.moveC {k:Nat} {s:St} (bid j id e sz tt:Nat) (cs:List AV) (xs:List (List PV)) (hc:zaf s.h bid = .blk tt cs) (hj:cs[j]? = some (.own id)) (hr:zaf s.h id = .row e sz xs) :
 ToK k s ⟨s.t,(s.n,.row e sz xs)::(id,.dead)::(bid,.blk tt (cs.set j (.own s.n)))::s.h,s.n+1⟩:=by
 intro H F β a w hk C
 obtain⟨bd0,hb1,hb2⟩:=C.m.ch bid (by rw[hc];simp)
 obtain⟨bd1,hr1,hr2⟩:=C.m.ch id (by rw[hr];simp)
 have hbn:bid≠s.n:=fun h=>absurd (C.m.used _ _ hb1) (by rw[h];exact Nat.lt_irrefl _)
 have hin:id≠s.n:=fun h=>absurd (C.m.used _ _ hr1) (by rw[h];exact Nat.lt_irrefl _)
 have hbi:bid≠id:=fun h=>by rw[h,hr]at hc;simp at hc
 have hb2':=hb2
 rw[hc]at hb2'
 obtain⟨q1,q2,g0,vs,q3,q4,q5,q6,q7⟩:=hb2'
 obtain⟨u,hu,hv⟩:=q6.at j _ hj
 simp only[RelA]at hv
 obtain⟨_,hone,hv⟩:=hv
 obtain rfl:=hv bd1 hr1
 obtain⟨M,E⟩:=C.m.step (w':=w) (h':=zaf ((s.n,.row e sz xs)::(id,.dead)::(bid,.blk tt (cs.set j (.own s.n)))::s.h)) (β':=zaq (zaq β id none) s.n (some bd1)) (F':=F) (U':=(· < s.n+1)) (fun i=>i=s.n∨i=id∨i=bid)
  (fun i hi=>by simp only[not_or]at hi;simp[zaq,Ne.symm hi.1,Ne.symm hi.2.1]) (fun i hi=>by simp only[not_or]at hi;simp[zaf,Ne.symm hi.1,Ne.symm hi.2.1,Ne.symm hi.2.2]) rfl rfl rfl (Nat.le_refl _) (fun _ _ _=>rfl) (fun i hi=>Nat.lt_succ_of_lt hi) (fun b hb=>hb)
  (fun b hb=>⟨C.m.fin b hb,.inl hb⟩)
  (fun i bd' hi hu hb=>by
   rcases hi with rfl|rfl|rfl
   ·exact absurd hu (Nat.lt_irrefl _)
   ·simp[zaq,Ne.symm hin]at hb
   ·exact⟨_,by simpa[zaq,Ne.symm hbn,Ne.symm hbi]using hb⟩)
  (fun i bd' hi hb=>by
   rcases hi with rfl|rfl|rfl
   ·simp only[zaq,if_true,Option.some.injEq]at hb
    subst hb
    refine⟨Nat.lt_succ_self _,fun b hbb => ?_⟩
    obtain⟨r1,r2,r3⟩:=C.m.off _ _ _ hr1 hbb
    exact⟨r2,r1,.inr ⟨id,bd1,.inr (.inl rfl),hr1,hbb⟩⟩
   ·simp[zaq,Ne.symm hin]at hb
   ·have hb' : β i=some bd':=by simpa[zaq,Ne.symm hbn,Ne.symm hbi]using hb
    refine⟨Nat.lt_succ_of_lt (C.m.used _ _ hb'),fun b hbb => ?_⟩
    obtain⟨p1,p2,p3⟩:=C.m.off _ _ _ hb' hbb
    exact⟨p2,p1,.inr ⟨i,bd',.inr (.inr rfl),hb',hbb⟩⟩)
  (fun i j' bi bj b hi hj' hbi2 hbj h1 h2=>by
   have old:∀i' bd',i'=bid→(zaq (zaq β id none) s.n (some bd1)) i'=some bd' → β bid=some bd':=by
    intro i' bd' h hb;subst h;simpa[zaq,Ne.symm hbn,Ne.symm hbi]using hb
   rcases hi with rfl|rfl|rfl<;>rcases hj' with rfl|rfl|rfl
   ·rfl
   ·simp[zaq,Ne.symm hin]at hbj
   ·simp only[zaq,if_true,Option.some.injEq]at hbi2;subst hbi2
    have:=C.m.dis id j' bd1 bj b hr1 (old _ _ rfl hbj) h1 h2
    exact absurd this.symm hbi
   ·simp[zaq,Ne.symm hin]at hbi2
   ·rfl
   ·simp[zaq,Ne.symm hin]at hbi2
   ·simp only[zaq,if_true,Option.some.injEq]at hbj;subst hbj
    have:=C.m.dis i id bi bd1 b (old _ _ rfl hbi2) hr1 h1 h2
    exact absurd this hbi
   ·simp[zaq,Ne.symm hin]at hbj
   ·rfl)
  (fun E i hi hd=>by
   rcases hi with rfl|rfl|rfl
   ·refine⟨bd1,by simp[zaq],?_⟩
    have hr3:=ChOk.mono E (fun g _=>rfl) hr2
    rw[hr]at hr3
    simp only[zaf,if_true]
    exact hr3
   ·simp[zaf,Ne.symm hin]at hd
   ·refine⟨bd0,by simpa[zaq,Ne.symm hbn,Ne.symm hbi]using hb1,?_⟩
    have hb3:=ChOk.mono E (fun g _=>rfl) hb2
    rw[hc]at hb3
    simp only[zaf,if_true,Ne.symm hbn,Ne.symm hbi,if_false]
    obtain⟨q1,q2,g,vs',q3',q4,q5',q6',q7⟩:=hb3
    have hg:g=g0:=by rw[q3]at q3';exact(Option.some.inj q3').symm
    subst hg
    have hvs:vs'=vs:=by rw[q5]at q5';simpa using q5'.symm
    subst hvs
    refine⟨by rw[List.length_set];exact q1,q2,g,vs',q3',q4,q5',RelL.setAt j q6' (fun u hu2 => ?_),q7⟩
    rw[hu]at hu2
    obtain rfl:=Option.some.inj hu2
    simp only[RelA]
    refine⟨Nat.lt_succ_self _,hone,fun bd hb => ?_⟩
    simp only[zaq,if_true,Option.some.injEq]at hb
    subst hb;rfl)
 refine⟨F,_,fun t'=>RelA.mono E _ _ (C.t t'),M,C.nt,C.d,C.f,C.g,fun i bd' hi hb => ?_,Nat.le_succ_of_le C.k⟩
 have h1:s.n≠i:=by have:=C.k;omega
 by_cases h2:id=i
 ·subst h2;simp[zaq,h1]at hb
 ·exact C.e i bd' hi (by simpa[zaq,h1,h2]using hb)
def yk6 (ops:Array Oper) (n:Nat) (K:St→Prop) (acc:List (List Nat × List Nat)) (s':St):Prop:=zw0 ops acc=true∧K ⟨s'.t,s'.h,n+4*ops.size⟩
theorem zaz {P:Program} {nt:Nat} {ops:Array Oper} {K:St→Prop} {t:List (Nat × AV)} {h:List (Nat × Chunk)} {n:Nat} (ds:List (Option Tmp)) (hds:ops.toList.map (fun o:Oper=>o.dst)=ds)
 (G:∀(O:Array Oper) (l:List Oper) (R:List (List Nat × List Nat)→St→Prop),l=ops.toList→(∀j:Nat,(O[j]?).bind (fun o:Oper=>o.dst)=(ds[j]?).bind id)→R=yk6 ops n K→zmr P nt O n 0 l [] R ⟨t,h,n⟩):zab P nt ops K ⟨t,h,n⟩:=by
 refine G ops ops.toList _ rfl (fun j => ?_) rfl
 rw[←hds,List.getElem?_map,Array.getElem?_toList]
 cases ops[j]? <;> rfl
theorem zar {P:Program} {nt:Nat} {O:Array Oper} {n i:Nat} {o:Oper} {r0:List Oper} {acc:List (List Nat × List Nat)} {R:List (List Nat × List Nat)→St→Prop} {s:St}
 (G:∀r,r=r0→zmr P nt O n i (o::r) acc R s):zmr P nt O n i (o::r0) acc R s:=G r0 rfl
theorem zht {P:Program} {nt:Nat} {O:Array Oper} {n i:Nat} {acc:List (List Nat × List Nat)} {R:List (List Nat × List Nat)→St→Prop} {t:List (Nat × AV)} {h:List (Nat × Chunk)} {m:Nat} (G:R acc ⟨t,h,m⟩):zmr P nt O n i [] acc R ⟨t,h,m⟩:=G
theorem zhs {ops:Array Oper} {n:Nat} {K:St→Prop} {acc:List (List Nat × List Nat)} {t:List (Nat × AV)} {h:List (Nat × Chunk)} {m:Nat} (G1:zw0 ops acc=true) (G2:K ⟨t,h,n+4*ops.size⟩):yk6 ops n K acc ⟨t,h,m⟩:=⟨G1,G2⟩
theorem Spec.hand {P:Program} {f:FuncId} {args args':List AV} {hs hs1 hs1':List Chunk} {r:AV} (k:Nat) (S:Spec P f args' hs1 r hs1') (hk:k≤hs.length) (hk1:hs1'.length=k) (hw:WkL (cvL (List.range k) (nth hs) args) args') (hh:hs1=(List.range k).map fun id=>cvC (List.range k) (nth hs) (nth hs id)) :
 Spec P f args hs r (hs1'++List.replicate (hs.length-k) .dead):=by
 obtain⟨S0,_,S⟩:=S
 refine⟨S0,by simp;omega,fun w F β vs M hv => ?_⟩
 have hl1:hs1.length=k:=by rw[hh];simp
 have M1:=(zw2 M (hT:=nth hs) (fun _ _=>rfl) (List.range k) List.nodup_range).here
 have hv1:=hw.run (zft M (hT:=nth hs) (fun _ _=>rfl) (List.range k) args vs hv)
 rw[←hh]at M1
 rw[List.length_range]at M1 hv1
 rw[hl1]at S
 have sel:∀ {i:Nat} {bd:Bind},zk7 (List.range k) β i=some bd→i<k ∧ β i=some bd:=by
  intro i bd h
  obtain⟨id,h1,h2⟩:=zk6 h
  have hik:i<k:=by have:=(List.getElem?_eq_some_iff.1 h1).1;simpa using this
  rw[List.getElem?_range hik]at h1
  obtain rfl:=Option.some.inj h1
  exact⟨hik,h2⟩
 have hin:∀b,inB (zk7 (List.range k) β) b→inB β b:=by
  rintro b ⟨i,bd,h1,h2⟩
  exact⟨i,bd,(sel h1).2,h2⟩
 refine(S w _ _ vs M1 hv1).mono ?_
 rintro e w' ⟨v,F',β',rfl,M2,hr,hF,hF',hβ⟩
 rw[hk1]at M2 hr
 have E:Ext (· < k) F' β' w' (· < (hs1'++List.replicate (hs.length-k) Chunk.dead).length) F' (fun i=>if i<k then β' i else none) w' :=
  ⟨fun i hi=>by simp only[List.length_append,List.length_replicate];omega,fun b hb=>⟨hb,rfl⟩,fun i bd hi hb=>⟨_,by simpa[hi]using hb⟩⟩
 have low:∀ {i:Nat} {bd:Bind},(if i<k then β' i else none)=some bd→i<k ∧ β' i=some bd:=by
  intro i bd h
  by_cases hi:i<k
  ·rw[if_pos hi]at h;exact⟨hi,h⟩
  ·rw[if_neg hi]at h;simp at h
 refine⟨v,F',fun i=>if i<k then β' i else none,rfl,⟨M2.size,M2.os,M2.tape,M2.output,fun b hb hn=>M2.frame b hb (fun h=>hn (hin b h)),M2.fin,fun i bd hb => ?_,fun i hd => ?_,fun i j bi bj b hi hj h1 h2=>M2.dis i j bi bj b (low hi).2 (low hj).2 h1 h2,fun i bd b hb hbb => ?_⟩,RelA.mono E _ _ hr,fun b hb=>hF b (.inl hb),fun b hb => ?_,fun i bd hi hb => ?_⟩
 ·exact E.u i (low hb).1
 ·have hik:i<k:=by
   rcases Nat.lt_or_ge i k with h|h
   ·exact h
   ·exfalso
    apply hd
    unfold nth
    rw[List.getD_eq_getElem?_getD,List.getElem?_append_right (by omega),List.getElem?_replicate]
    split<;>rfl
  have e0:nth (hs1'++List.replicate (hs.length-k) Chunk.dead) i=nth hs1' i:=by
   unfold nth
   rw[List.getD_eq_getElem?_getD,List.getElem?_append_left (by omega),List.getD_eq_getElem?_getD]
  rw[e0]at hd ⊢
  obtain⟨bd,h1,h2⟩:=M2.ch i hd
  exact⟨bd,by rw[if_pos hik];exact h1,ChOk.mono E (fun _ _=>rfl) h2⟩
 ·obtain⟨k1,k2,k3⟩:=M2.off i bd b (low hb).2 hbb
  exact⟨k1,k2,k3.imp id (hin b)⟩
 ·rcases hF' b hb with h1|h1|h1
  ·rcases h1 with h1|⟨id,bd,_,_,h2,h3⟩
   ·exact .inl h1
   ·exact .inr (.inr ⟨id,bd,h2,.inl h3⟩)
  ·exact .inr (.inl h1)
  ·exact .inr (.inr (hin b h1))
 ·obtain⟨h1,h2⟩:=low hb
  obtain⟨bs,h3⟩:=hβ i bd h1 h2
  exact⟨bs,(sel h3).2⟩
theorem z14 (Z:List Nat) (h:Nat→Chunk):∀(l:List (Nat × AV)) (t:Nat),look (l.map fun p=>(p.1,fz Z h p.2)) t=fz Z h (look l t)
 | [],t=>by simp only[List.map_nil,look,fz]
 | (k,x)::r,t=>by
  simp only[List.map_cons,look]
  by_cases e:k=t
  ·rw[if_pos e,if_pos e]
  ·rw[if_neg e,if_neg e];exact z14 Z h r t
theorem To.frz {k:Nat} {s:St} (Z:List Nat):ToK k s ⟨s.t.map fun p=>(p.1,fz Z (zaf s.h) p.2),zgg Z++s.h,s.n⟩:=by
 intro H F β a w hk C
 have M:=z9a C.m Z
 have e:zaf (zgg Z++s.h)=fzH Z (zaf s.h):=by
  rw[←zkb,zku]
 refine⟨fzF Z F β,fzB Z β,fun t => ?_,by rw[e];exact M,C.nt,C.d.more fun _ hb => .inl hb,fun b hb => .inl (C.f b hb),fun b hb => ?_,fun i bd hi hb=>C.e i bd hi (zdh hb).2,C.k⟩
 ·simp only[z14]
  exact zrq C.m (fun _ _=>rfl) Z _ _ (C.t t)
 ·rcases hb with h1|⟨id,bd,_,h2,h3⟩
  ·exact C.g b h1
  ·exact .inr (C.m.off id bd b h2 (.inl h3)).2.2
def xsh (X s:Nat):Nat:=X ^^^ X/s
def mxA (n:Nat):Nat:=(n+11400714819323198485) % 18446744073709551616
def mxB (n:Nat):Nat:=xsh (mxA n) 1073741824*13787848793156543929 % 18446744073709551616
def mxC (n:Nat):Nat:=xsh (mxB n) 134217728*10723151780598845931 % 18446744073709551616
def mx (n:Nat):Nat:=xsh (mxC n) 2147483648
theorem yee (X s:Nat) (h:X<18446744073709551616):xsh X s<18446744073709551616:=by
 have hd:X/s≤X:=Nat.div_le_self _ _
 exact Nat.xor_lt_two_pow (n:=64) h (by omega)
theorem yf6 (n:Nat):mxA n<18446744073709551616:=Nat.mod_lt _ (by decide)
theorem yf4 (n:Nat):mxB n<18446744073709551616:=Nat.mod_lt _ (by decide)
theorem z82 (n:Nat):mxC n<18446744073709551616:=Nat.mod_lt _ (by decide)
theorem z6f (n:Nat):mx n<18446744073709551616:=yee _ _ (z82 n)
theorem yf7 (n:Nat):IntKind.u64.wrap ((n:Int)+11400714819323198485)=(mxA n:Int):=by
 rw[IntKind.wrap_u64];unfold mxA;rw[Int.natCast_emod,Int.natCast_add];rfl
theorem yef (X s:Nat) (h:X<18446744073709551616):bits .xor .u64 (X:Int) ((X:Int)/(s:Int))=(xsh X s:Int):=xorShift_u64 X s h
theorem yf5 (n:Nat):IntKind.u64.wrap (bits .xor .u64 (mxA n:Int) ((mxA n:Int)/1073741824)*13787848793156543929)=(mxB n:Int):=mixStep_u64 _ 1073741824 13787848793156543929 (yf6 n)
theorem yf3 (n:Nat):IntKind.u64.wrap (bits .xor .u64 (mxB n:Int) ((mxB n:Int)/134217728)*10723151780598845931)=(mxC n:Int):=mixStep_u64 _ 134217728 10723151780598845931 (yf4 n)
set_option maxHeartbeats 800000 in
theorem ztf (n:Nat) (w:World) :
 Calls Tryz.prog 150 #[.int .u64 n] w fun e w'=>e = .returned (.int .u64 (mx n))∧w=w':=by
 go_enter Tryz.func150,Tryz.ntmps150
 go_wp2
 go_ret
 refine⟨zs4 ?_,rfl⟩
 rw[yf7,yf5,yf3]
 exact yef (mxC n) 2147483648 (z82 n)
theorem yk0 (a b:Nat) (ha:a<18446744073709551616) (hb:b<18446744073709551616):bits .xor .u64 (a:Int) (b:Int)=((a ^^^ b:Nat):Int):=bits_xor_u64_nat a b ha hb
theorem z9n (a b:Nat) (ha:a<18446744073709551616) (hb:b<18446744073709551616):a ^^^ b<18446744073709551616:=Nat.xor_lt_two_pow (n:=64) ha hb
set_option maxHeartbeats 800000 in
theorem z4w (m n:Nat) (hm:m<18446744073709551616) (w:World) :
 Calls Tryz.prog 151 #[.int .u64 m,.int .u64 n] w fun e w'=>e = .returned (.int .u64 (m ^^^ mx n:Nat))∧w=w':=by
 have h:=yk0 m (mx n) hm (z6f n)
 have H:=Lib.hid h;clear h hm
 go_enter Tryz.func151,Tryz.ntmps151
 go_wp2_with (go_at_call 150;refine(ztf _ _).mono ?_;rintro e w' ⟨rfl,rfl⟩)
 go_ret
 exact⟨zs4 H.out,rfl⟩
def mb (m:Nat) (b:UInt8):Nat:=mx (m ^^^ b.toNat)
theorem ykb (m:Nat) (b:UInt8):mb m b<18446744073709551616:=z6f _
def lf (m:Nat):List UInt8→Nat
 | []=>m
 | b::l=>lf (mb m b) l
theorem yca (m:Nat) (l:List UInt8) (b:UInt8):lf m (l ++ [b])=mb (lf m l) b:=by
 induction l generalizing m with
 | nil=>simp only[List.nil_append,lf]
 | cons c l ih=>simp only[List.cons_append,lf,ih]
theorem ykh (l:List UInt8):∀m,m<18446744073709551616→lf m l<18446744073709551616:=by
 induction l with
 | nil=>intro m h;rw[lf];exact h
 | cons b l ih=>intro m _;rw[lf];exact ih _ (ykb _ _)
def mz (n:Nat):Nat:=mx n
theorem yj4 (n:Nat):mz n<18446744073709551616:=z6f _
def z18 (s:ByteArray):Nat:=lf (mz s.size) s.data.toList
theorem yj9 (n:Nat) (w:World):Calls Tryz.prog 150 #[.int .u64 n] w fun e w'=>e = .returned (.int .u64 (mz n:Nat))∧w=w':=ztf n w
theorem yka (m:Nat) (b:UInt8) (w:World):Calls Tryz.prog 150 #[.int .u64 (m ^^^ b.toNat:Nat)] w fun e w'=>e = .returned (.int .u64 (mb m b:Nat))∧w=w':=ztf _ w
set_option maxRecDepth 20000 in
set_option maxHeartbeats 1000000 in
theorem z6s (s:ByteArray) (w:World) (hs:s.size≤140737488351232) :
 Calls Tryz.prog 119 #[.string s] w fun e w'=>e = .returned (.int .u64 (z18 s:Nat))∧w=w':=by
 have hu:IntKind.u64.wrap (s.size:Int)=s.size:=by rw[IntKind.wrap_u64];omega
 go_enter Tryz.func119,Tryz.ntmps119
 go_wp2_with fail
 refine(yj9 _ _).mono ?_
 rintro e w' ⟨rfl,rfl⟩
 clear hu
 go_wp2_with fail
 go_loop [3,11] (fun mv iv=>∃k:Nat,k≤s.size∧iv = .int .i64 k∧mv = .int .u64 (lf (mz s.size) (s.data.toList.take k):Nat)) (fun _ iv=>s.size-(intOf iv).toNat)
 case atStart=>exact⟨0,by omega,rfl,by rw[List.take_zero,lf]⟩
 case round =>
  obtain⟨k,hk,rfl,rfl⟩:=hrel
  have hl:=ykh (s.data.toList.take k) _ (yj4 s.size)
  by_cases h8:k<s.size
  ·have hs1:lf (mz s.size) (s.data.toList.take (k+1))=mb (lf (mz s.size) (s.data.toList.take k)) s[k]:=by rw[zjq s k h8,yca]
   generalize lf (mz s.size) (s.data.toList.take k)=y at *
   have HS:=PLift.up hs1;clear hs1
   have hx:=UInt8.toNat_lt s[k]
   have hc:IntKind.u64.wrap (s[k].toNat:Int)=(s[k].toNat:Int):=by rw[IntKind.wrap_u64];omega
   have hxo:=yk0 y s[k].toNat hl (by omega)
   go_wp2_with fail
   refine(yka _ _ _).mono ?_
   rintro e w' ⟨rfl,rfl⟩
   rw[←HS.down]
   clear hxo hc
   go_wp2_with fail
   go_round
   case rel=>exact⟨k+1,by omega,by go_num,rfl⟩
   case measure=>simp[intOf];omega
  ·obtain rfl:k=s.size:=by omega
   have hf:lf (mz s.size) (s.data.toList.take s.size)=z18 s:=by rw[zuo,z18]
   rw[hf]
   clear hf hl
   go_wp2_with fail
   go_returns
   exact⟨rfl,rfl⟩
end Go.Proofs.YtmjbgbmegbkmhaaGreat
namespace Go.Proofs.YtmjbgbmegbkmhaaGreat
set_option linter.all false
def lvl (pr:Nat→Nat→Nat):List Nat→List Nat
 | [] => []
 | [a] => [a]
 | a::b::l=>pr a b::lvl pr l
end Go.Proofs.YtmjbgbmegbkmhaaGreat
namespace Go.Proofs
open Go.Shelf
def Tryz.lays169_ren:Go.Shelf.Ren:=⟨fun|169=>110|n=>n,fun|70=>226|9=>9|0=>0|72=>229|37=>227|127=>276|3=>3|5=>5|n=>n,fun|n=>n⟩
theorem Tryz.lays169:Go.Proofs.Lays.n169 Tryz.prog Tryz.lays169_ren:={
 mixed:=by kernel_rfl
 f169:=Tryz.func110.trans (congrArg some (by kernel_rfl))
 t0:=Tryz.underlying0
 a0:=Tryz.isAgg0
 z0:=Tryz.sizeOf0
 v0:=Tryz.zeroValue0
 t3:=Tryz.underlying3
 a3:=Tryz.isAgg3
 z3:=Tryz.sizeOf3
 v3:=Tryz.zeroValue3
 t9:=Tryz.underlying9
 a9:=Tryz.isAgg9
 z9:=Tryz.sizeOf9
 v9:=Tryz.zeroValue9
 t37:=Tryz.underlying227
 a37:=Tryz.isAgg227
 z37:=Tryz.sizeOf227
 v37:=Tryz.zeroValue227
 t70:=Tryz.underlying226
 a70:=Tryz.isAgg226
 z70:=Tryz.sizeOf226
 v70:=Tryz.zeroValue226
 t72:=Tryz.underlying229
 a72:=Tryz.isAgg229
 z72:=Tryz.sizeOf229
 v72:=Tryz.zeroValue229
 t127:=Tryz.underlying276
 a127:=Tryz.isAgg276
 z127:=Tryz.sizeOf276
 v127:=Tryz.zeroValue276 }
theorem Tryz.Builder_Extra_169:Builder.Extra Tryz.prog Tryz.lays169_ren:={
 sizeBuilder:=by kernel_rfl
 liesBuilder:=by kernel_rfl
 t5:=Tryz.underlying5
 a5:=Tryz.isAgg5
 z5:=Tryz.sizeOf5
 v5:=Tryz.zeroValue5
 infoByte:=by kernel_rfl
 cellsByte:=by kernel_rfl
 sizeByte:=by kernel_rfl
 neB5:=by decide }
open Go.RowKit in
theorem Tryz.Builder_String_any (B b:Nat) (l:List UInt8) (w:World) (h:Lib.IsBuilder 229 5 B b (Lib.byteCells l) w) (hBw:B≤w.heap.size) :
 Calls Tryz.prog 110 #[.pointer (some ⟨b,0,none⟩)] w fun e w'=>e = .returned (.string ⟨l.toArray⟩)∧Below B w w':=Any.Builder_String_any Tryz.lays169 Tryz.Builder_Extra_169 B b l w h hBw
end Go.Proofs
namespace Go.Proofs.YtmjbgbmegbkmhaaGreat
set_option linter.all false
open Go.RowKit
def sp (n:Nat):Nat:=Lib.bitLen (n-1)-1
end Go.Proofs.YtmjbgbmegbkmhaaGreat
namespace Go.Proofs.YtmjbgbmegbkmhaaGreat
set_option linter.all false
def bes (l:List Nat) (i:Nat):List Nat:=(l[i ^^^ 1]?).toList
def trF (pr:Nat→Nat→Nat):Nat→List Nat→Nat→List Nat
 | 0,_,_ => []
 | f+1,l,i=>if l.length≤1 then []else bes l i++trF pr f (lvl pr l) (i/2)
def tr (pr:Nat→Nat→Nat) (l:List Nat) (i:Nat):List Nat:=trF pr l.length l i
end Go.Proofs.YtmjbgbmegbkmhaaGreat
namespace Go.Proofs.YtmjbgbmegbkmhaaGreat
set_option linter.all false
open Go.RowKit
def cs (n:Nat):Nat:=n/2 ^^^ (if n % 2=1 then 3988292384 else 0)
def csk:Nat→Nat→Nat
 | 0,n=>n
 | k+1,n=>cs (csk k n)
theorem yg7 (n:Nat) (h:n<4294967296):cs n<4294967296:=by
 unfold cs
 refine Nat.xor_lt_two_pow (n:=32) (by omega) ?_
 split<;>decide
theorem z9i (k n:Nat) (h:n<4294967296):csk k n<4294967296:=by
 induction k with
 | zero=>exact h
 | succ k ih=>exact yg7 _ ih
theorem x32 (a b:Nat) (ha:a<4294967296) (hb:b<4294967296):bits .xor .u32 (a:Int) (b:Int)=((a ^^^ b:Nat):Int):=u32_xor_nat a b ha hb
theorem z8d (a b:Nat) (ha:a<4294967296) (hb:b<4294967296):a ^^^ b<4294967296:=Nat.xor_lt_two_pow (n:=32) ha hb
def tk (n b:Nat):Nat:=csk 8 (n ^^^ b)
theorem yjo (n b:Nat) (h:n<4294967296) (hb:b<256):tk n b<4294967296:=z9i 8 _ (z8d n b h (by omega))
theorem yku (y:Nat) (h:y<4294967296):bits .xor .u32 ((y:Int)/2) (bits .and .u32 3988292384 (-bits .and .u32 (y:Int) 1 % 4294967296))=((cs y:Nat):Int):=by
 have h1:bits .and .u32 (y:Int) 1=((y % 2:Nat):Int):=by
  have:=u32_and_nat y 1 h (by decide)
  rw[Nat.and_one_is_mod]at this;exact this
 rw[h1]
 have h2:(y:Int)/2=((y/2:Nat):Int):=by omega
 rw[h2]
 unfold cs
 rcases Nat.mod_two_eq_zero_or_one y with h0|h0
 ·rw[h0]
  have e:bits .and .u32 3988292384 (-((0:Nat):Int) % 4294967296)=((0:Nat):Int):=by decide +kernel
  rw[e,x32 _ _ (by omega) (by decide)];simp
 ·rw[h0]
  have e:bits .and .u32 3988292384 (-((1:Nat):Int) % 4294967296)=((3988292384:Nat):Int):=by decide +kernel
  rw[e,x32 _ _ (by omega) (by decide)];simp
set_option maxHeartbeats 800000 in
theorem z40 (n b:Nat) (w:World) (hn:n<4294967296) (hb:b<256) :
 Calls Tryz.prog 171 #[.int .u32 n,.int .u8 b] w fun e w'=>e = .returned (.int .u32 (tk n b:Nat))∧w=w':=by
 have hx:=x32 n b hn (by omega)
 have hl:=z8d n b hn (by omega)
 have e:tk n b=csk 8 (n ^^^ b):=rfl
 generalize n ^^^ b=z at hx hl e
 have E:=Lib.hid e;clear e
 go_enter Tryz.func171,Tryz.ntmps171
 go_wp2_with fail
 go_loop [0,9] (fun m i=>∃k:Nat,k≤8∧i = .int .i64 k∧m = .int .u32 (csk k z:Nat)) (fun _ i=>8-(intOf i).toNat)
 case atStart=>exact⟨0,by omega,rfl,rfl⟩
 case round =>
  obtain⟨k,hk,rfl,rfl⟩:=hrel
  by_cases h8:k<8
  ·have hlk:=z9i k z hl
   have hs:csk (k+1) z=cs (csk k z):=rfl
   generalize csk k z=y at *
   have hls:=yg7 y hlk
   have HS:=Lib.hid hs;clear hs
   go_wp2_with fail
   go_round
   case rel=>exact⟨k+1,by omega,by go_num,by rw[HS.out,yku y hlk]⟩
   case measure=>simp[intOf];omega
  ·obtain rfl:k=8:=by omega
   go_wp2_with fail
   go_ret
   exact⟨z0z (by rw[E.out]),rfl⟩
def tks (n:Nat) (l:List UInt8):Nat:=l.foldl (fun n b=>tk n b.toNat) n
theorem yew (l:List UInt8):∀n,n<4294967296→tks n l<4294967296:=by
 induction l with
 | nil=>intro n h;exact h
 | cons b l ih=>intro n h;exact ih _ (yjo n _ h (UInt8.toNat_lt b))
theorem z4z (n:Nat) (l:List UInt8) (b:UInt8):tks n (l ++ [b])=tk (tks n l) b.toNat:=by simp[tks]
def z7n (n:Nat) (l:List UInt8):Nat:=4294967295-tks (4294967295-n) l
theorem ydc (n:Nat) (l:List UInt8):z7n n l<4294967296:=by unfold z7n;omega
theorem yfz (n:Nat) (h:n<4294967296):bits .xor .u32 IntKind.u32.max (n:Int)=((4294967295-n:Nat):Int):=by
 have e1:IntKind.u32.max=((4294967295:Nat):Int):=by decide
 rw[e1,x32 _ _ (by decide) h]
 congr 1
 have e2:(BitVec.ofNat 32 4294967295 ^^^ BitVec.ofNat 32 n) = ~~~(BitVec.ofNat 32 n):=by
  have:BitVec.ofNat 32 4294967295=BitVec.allOnes 32:=by decide
  rw[this,BitVec.allOnes_xor]
 have e3:=congrArg BitVec.toNat e2
 rw[BitVec.toNat_xor,BitVec.toNat_not,BitVec.toNat_ofNat,BitVec.toNat_ofNat,Nat.mod_eq_of_lt (show n<2 ^ 32 from h)]at e3
 exact e3
set_option maxHeartbeats 800000 in
theorem z6h (n:Nat) (s:ByteArray) (w:World) (hn:n<4294967296) (hs:s.size≤140737488351232) :
 Calls Tryz.prog 145 #[.int .u32 n,.string s] w fun e w'=>e = .returned (.int .u32 (z7n n s.data.toList:Nat))∧w=w':=by
 go_enter Tryz.func145,Tryz.ntmps145
 go_wp2_with fail
 go_loop [0,5,10] (fun m _ i=>∃k:Nat,k≤s.size∧i = .int .i64 k∧m = .int .u32 (tks (4294967295-n) (s.data.toList.take k):Nat)) (fun _ _ i=>s.size-(intOf i).toNat)
 case atStart=>exact⟨0,by omega,rfl,by rw[yfz n hn];rfl⟩
 case round =>
  obtain⟨k,hk,rfl,rfl⟩:=hrel
  have hl:=yew (s.data.toList.take k) (4294967295-n) (by omega)
  by_cases h8:k<s.size
  ·have hs1:tks (4294967295-n) (s.data.toList.take (k+1))=tk (tks (4294967295-n) (s.data.toList.take k)) s[k].toNat:=by rw[zjq s k h8,z4z]
   generalize tks (4294967295-n) (s.data.toList.take k)=y at *
   have HS:=Lib.hid hs1;clear hs1
   go_wp2_with (go_at_call 171;refine(z40 _ _ _ hl (UInt8.toNat_lt _)).mono ?_;rintro e w' ⟨rfl,rfl⟩)
   go_round
   case rel=>exact⟨k+1,by omega,by go_num,by rw[HS.out]⟩
   case measure=>simp[intOf];omega
  ·have hke:k=s.size:=by omega
   go_wp2_with fail
   go_ret
   refine⟨z0z ?_,rfl⟩
   rw[hke]at hl
   rw[yfz _ hl,z7n,zuo]
set_option maxHeartbeats 800000 in
theorem yfw (s:ByteArray) (w:World) (hs:s.size≤140737488351232) :
 Calls Tryz.prog 111 #[.string s] w fun e w'=>e = .returned (.int .u32 (z7n 0 s.data.toList:Nat))∧w=w':=by
 go_enter Tryz.func111,Tryz.ntmps111
 go_wp2_with fail
 refine(z6h 0 s w (by decide) hs).mono ?_
 rintro e w' ⟨rfl,rfl⟩
 go_wp2_with fail
 go_ret
 exact⟨rfl,rfl⟩
def zk8 (n:Nat):List UInt8 := [UInt8.ofNat (n % 256),UInt8.ofNat (n/256 % 256),UInt8.ofNat (n/65536 % 256),UInt8.ofNat (n/16777216 % 256)]
def zhg (s:ByteArray):ByteArray:=s++⟨(zk8 (z7n 0 s.data.toList)).toArray⟩
theorem zmz (s:ByteArray):(zhg s).size=s.size+4:=by unfold zhg;rw[ByteArray.size_append];rfl
set_option maxHeartbeats 800000 in
set_option maxRecDepth 100000 in
theorem zn5 (s:ByteArray) (w:World) (hs:s.size≤140737488351232) :
 Calls Tryz.prog 63 #[.string s] w fun e w'=>e = .returned (.string (zhg s))∧Below w.heap.size w w':=by
 have hS:zhg s=s++⟨(zk8 (z7n 0 s.data.toList)).toArray⟩:=rfl
 have hl:=ydc 0 s.data.toList
 go_enter Tryz.func63,Tryz.ntmps63
 go_wp2_with fail
 refine(yfw s w hs).mono ?_
 rintro e w' ⟨rfl,rfl⟩
 generalize z7n 0 s.data.toList=n at *
 have hcv:=run_convert_bytes_back (P:=Tryz.prog) (w.alloc (Obj.cells #[Value.int IntKind.u8 ((n:Int) % 256),Value.int IntKind.u8 ((n:Int)/256 % 256),Value.int IntKind.u8 ((n:Int)/65536 % 256),Value.int IntKind.u8 ((n:Int)/16777216)] 5)) 227 9 5 ⟨w.heap.size,0,none⟩ 4 (zk8 n) Tryz.underlying227 Tryz.underlying5 Tryz.underlying9 (by
  intro j hj
  have h1:(UInt8.ofNat (n % 256)).toNat=n % 256:=za8 _ (by omega)
  have h2:(UInt8.ofNat (n/256 % 256)).toNat=n/256 % 256:=za8 _ (by omega)
  have h3:(UInt8.ofNat (n/65536 % 256)).toNat=n/65536 % 256:=za8 _ (by omega)
  have h4:(UInt8.ofNat (n/16777216 % 256)).toNat=n/16777216 % 256:=za8 _ (by omega)
  have hjl:j<4:=hj
  rw[Addr.add_lit]
  match j,hjl with
  | 0,_=>simp only[zk8,List.getElem_cons_zero,h1];simp[go_sem]
  | 1,_=>simp only[zk8,List.getElem_cons_succ,List.getElem_cons_zero,h2];simp[go_sem]
  | 2,_=>simp only[zk8,List.getElem_cons_succ,List.getElem_cons_zero,h3];simp[go_sem]
  | 3,_=>simp only[zk8,List.getElem_cons_succ,List.getElem_cons_zero,h4];simp[go_sem];omega)
 have e4:(zk8 n).length=4:=rfl
 rw[e4]at hcv
 have hsz:(ByteArray.mk (zk8 n).toArray).size=4:=rfl
 have HS:=Lib.hid hS;clear hS
 obtain⟨T,hT⟩:∃T,T=ByteArray.mk (zk8 n).toArray:=⟨_,rfl⟩
 rw[←hT]at hcv hsz
 have HT:=Lib.hid hT;clear hT e4
 go_wp2_with fail
 go_ret
 refine⟨congrArg Ending.returned (congrArg Value.string ?_),by go_grown⟩
 rw[HS.out,HT.out]
def e8 (x:Nat):List Value := [.int .u8 x]
def zb1:Nat→Nat→List UInt8
 | 0,n => [UInt8.ofNat n]
 | f+1,n=>if n<128 then [UInt8.ofNat n]else UInt8.ofNat (128+n % 128)::zb1 f (n/128)
def zg1 (n:Nat):List UInt8:=zb1 9 n
def zi6 (n:Nat):ByteArray:=⟨(zg1 n).toArray⟩
theorem zid (f n:Nat):1≤(zb1 f n).length∧(zb1 f n).length≤f+1:=by
 induction f generalizing n with
 | zero=>simp[zb1]
 | succ f ih =>
  have:=ih (n/128)
  simp only[zb1];split<;>simp<;>omega
theorem zyc (n:Nat):1≤(zi6 n).size∧(zi6 n).size≤10:=by
 have:=zid 9 n
 show 1≤(zb1 9 n).toArray.size∧(zb1 9 n).toArray.size≤10
 simpa using this
theorem ztb (f n:Nat) (h:n<128):zb1 f n = [UInt8.ofNat n]:=by cases f<;>simp[zb1,h]
def zge (n:Int):Nat:=if 0≤n then (2*n).toNat else (2*(-(n+1))+1).toNat
def z4r (n:Nat):Int:=if n % 2=0 then (n/2:Nat)else -((n/2:Nat):Int)-1
theorem zws (n:Int) (h:I64 n):zge n<18446744073709551616:=by unfold I64 at h;unfold zge;split<;>omega
theorem z4m (a:Nat) (h:a<18446744073709551616):bits .xor .u64 (a:Int) (18446744073709551615:Int)=((18446744073709551615-a:Nat):Int):=by
 have e1:(18446744073709551615:Int)=((18446744073709551615:Nat):Int):=rfl
 rw[e1,u64_xor_nat a _ h (by decide)]
 congr 1
 have e3:=congrArg BitVec.toNat (BitVec.xor_allOnes (x:=BitVec.ofNat 64 a))
 rw[BitVec.toNat_xor,BitVec.toNat_not,BitVec.toNat_ofNat,BitVec.toNat_allOnes,Nat.mod_eq_of_lt (show a<2 ^ 64 from h)]at e3
 exact e3
theorem zxk (a:Nat) (h:a<18446744073709551616):bits .xor .u64 (a:Int) (0:Int)=(a:Int):=by
 have e1:(0:Int)=((0:Nat):Int):=rfl
 rw[e1,u64_xor_nat a _ h (by decide)]
 simp
theorem zpo (x:Nat) (hx:x<9223372036854775808):bits .xor .i64 (x:Int) (-1) = -(x:Int)-1:=by
 show IntKind.i64.wrap ((BitVec.ofInt 64 (x:Int) ^^^ BitVec.ofInt 64 (-1)).toNat:Int)=_
 rw[BitVec.xor_comm]
 exact Lib.i64_not x hx
theorem zpn (x:Nat) (hx:x<9223372036854775808):bits .xor .i64 (x:Int) 0=(x:Int):=by
 show IntKind.i64.wrap ((BitVec.ofInt 64 (x:Int) ^^^ BitVec.ofInt 64 0).toNat:Int)=_
 rw[show BitVec.ofInt 64 0=0#64 from by decide,BitVec.xor_zero,BitVec.ofInt_natCast,BitVec.toNat_ofNat,IntKind.wrap_i64]
 omega
set_option maxHeartbeats 800000 in
theorem z7b (n:Int) (h:I64 n) (w:World) :
 Calls Tryz.prog 109 #[.int .i64 n] w fun e w'=>e = .returned (.int .u64 (zge n:Nat))∧w=w':=by
 unfold I64 at h
 go_enter Tryz.func109,Tryz.ntmps109
 go_wp2_with fail
 go_returns
 refine⟨zs4 ?_,rfl⟩
 unfold zge
 simp only[IntKind.wrap_u64]
 by_cases h0:0≤n
 ·rw[if_pos h0,show n/9223372036854775808 % 18446744073709551616=0 from by omega,show n % 18446744073709551616*2 % 18446744073709551616=(((2*n).toNat:Nat):Int)from by omega,zxk _ (by omega)]
 ·rw[if_neg h0,show n/9223372036854775808 % 18446744073709551616=18446744073709551615 from by omega,show n % 18446744073709551616*2 % 18446744073709551616=(((2*n+18446744073709551616).toNat:Nat):Int)from by omega,z4m _ (by omega)]
  omega
set_option maxHeartbeats 800000 in
theorem zxm (n:Nat) (h:n<18446744073709551616) (w:World) :
 Calls Tryz.prog 82 #[.int .u64 n] w fun e w'=>e = .returned (.int .i64 (z4r n))∧w=w':=by
 go_enter Tryz.func82,Tryz.ntmps82
 go_wp2_with fail
 go_returns
 refine⟨z00 ?_,rfl⟩
 rw[Lib.u64_and1 _ (by omega) (by omega)]
 unfold z4r wrap64
 by_cases h0:n % 2=0
 ·rw[if_pos h0,show ((n:Int) % 2)=0 from by omega,show ((n:Int)/2)=((n/2:Nat):Int)from by omega]
  exact zpn _ (by omega)
 ·rw[if_neg h0,show ((n:Int) % 2)=1 from by omega,show ((n:Int)/2)=((n/2:Nat):Int)from by omega]
  exact zpo _ (by omega)
def bC (l:List UInt8):List Value:=l.map fun b => .int .u8 (b.toNat:Int)
theorem yjw (m:Nat):bits .or .u8 ((m:Int) % 256) 128=((128+m % 128:Nat):Int):=by
 rw[Lib.u8_or128_any _ (by omega) (by omega)];omega
set_option maxHeartbeats 1000000 in
set_option maxRecDepth 20000 in
theorem zn8 (n:Nat) (h:n<18446744073709551616) (w:World) :
 Calls Tryz.prog 108 #[.int .u64 n] w fun e w'=>e = .returned (.string (zi6 n))∧Below w.heap.size w w':=by
 go_enter Tryz.func108,Tryz.ntmps108
 go_wp2_with fail
 go_loopw [0,3] (fun mv v wr=>∃(m f:Nat) (done:List UInt8),mv = .int .u64 m∧m<18446744073709551616∧Hid (m<128 ^ (f+1)∧done++zb1 f m=zg1 n∧done.length+f=9∧wr.ownsRow w.heap.size 5 1 v done.length (bC done)∧Below w.heap.size w wr)) (fun mv _ _=>(intOf mv).toNat)
 case atStart=>exact⟨n,9,[],rfl,h,by simpa using Nat.lt_of_lt_of_le h (by decide),rfl,rfl,⟨by simp[bC],.inl ⟨rfl,rfl⟩⟩,Below.refl _ _⟩
 case round =>
  obtain⟨m,f,done,rfl,hm,hI⟩:=hrel
  have hor:=yjw m
  have hdl:done.length≤9:=by have:=hI.out.2.2.1;omega
  have hB:=hI.out.2.2.2.2.size
  by_cases h8:128≤m
  ·obtain⟨f,rfl⟩:∃f',f=f'+1:=by
    cases f with
    | zero=>have:=hI.out.1;simp at this;omega
    | succ f=>exact⟨f,rfl⟩
   have HI:=PLift.up hI.out
   clear hI
   go_wp2_with (at_builtin;refine z9p _ rfl _ _ _ rfl w.heap.size _ _ _ z9f _ done.length (bC done) rfl (HI.down.2.2.2.1.alloc _) (some ⟨wr.heap.size,0,none⟩) 1 1 [.int .u8 ((128+m % 128:Nat):Int)] rfl ?_ ?_ ?_ ?_ ?_ ?_ ?_ ?_)
   ·rfl
   ·simp
   ·intro ad had j u hu
    obtain rfl:=Option.some.inj had
    match j,hu with
    | 0,hu=>simp at hu;subst hu;simp[Addr.add_lit,go_sem]
    | j+1,hu=>simp at hu
   ·simp[Value.oneCell']
   ·simp only[maxLen];omega
   ·omega
   ·simp;omega
   ·intro v' w2 hown hg _
    have hbb:Below w.heap.size w w2:=(HI.down.2.2.2.2.alloc (by omega) _).grown hg (by simp;omega) (fun q hq=>(HI.down.2.2.2.1.lt q hq).1)
    have HO:=PLift.up hown
    have HBB:=PLift.up hbb
    clear hown hbb hg
    go_wp2_with fail
    go_roundw
    case rel =>
     have hp:zb1 (f+1) m=UInt8.ofNat (128+m % 128)::zb1 f (m/128):=by simp[zb1];omega
     refine⟨m/128,f,done ++ [UInt8.ofNat (128+m % 128)],?_,by omega,?_,?_,?_,?_,HBB.down⟩
     ·simp
     ·have:=HI.down.1;rw[Nat.pow_succ]at this;exact Nat.div_lt_of_lt_mul (by omega)
     ·have:=HI.down.2.1;rw[hp]at this;simpa using this
     ·have:=HI.down.2.2.1;simp;omega
     ·have:=HO.down
      have e:bC (done ++ [UInt8.ofNat (128+m % 128)])=bC done ++ [.int .u8 ((128+m % 128:Nat):Int)]:=by
       simp only[bC,List.map_append,List.map_cons,List.map_nil]
       rw[za8 _ (by omega)]
      rw[e];simpa using this
    case measure=>simp[intOf];omega
  ·have HI:=PLift.up hI.out
   clear hI
   go_wp2_with (at_builtin;refine z9p _ rfl _ _ _ rfl w.heap.size _ _ _ z9f _ done.length (bC done) rfl (HI.down.2.2.2.1.alloc _) (some ⟨wr.heap.size,0,none⟩) 1 1 [.int .u8 (m:Int)] rfl ?_ ?_ ?_ ?_ ?_ ?_ ?_ ?_)
   ·rfl
   ·simp
   ·intro ad had j u hu
    obtain rfl:=Option.some.inj had
    match j,hu with
    | 0,hu=>simp at hu;subst hu;simp[Addr.add_lit,go_sem]
    | j+1,hu=>simp at hu
   ·simp[Value.oneCell']
   ·simp only[maxLen];omega
   ·omega
   ·simp;omega
   ·intro v' w2 hown hg _
    have hbb:Below w.heap.size w w2:=(HI.down.2.2.2.2.alloc (by omega) _).grown hg (by simp;omega) (fun q hq=>(HI.down.2.2.2.1.lt q hq).1)
    have hfin:done ++ [UInt8.ofNat m]=zg1 n:=by have:=HI.down.2.1;rw[ztb f m (by omega)]at this;exact this
    have e:bC done ++ [.int .u8 (m:Int)]=bC (zg1 n):=by
     rw[←hfin]
     simp only[bC,List.map_append,List.map_cons,List.map_nil]
     rw[za8 _ (by omega)]
    have hlen:done.length+1=(zg1 n).length:=by rw[←hfin];simp
    rw[e,hlen]at hown
    rcases hown.2 with ⟨_,h0⟩|⟨g,cap,cur,rfl,_,hgc,_⟩
    ·omega
    have hcell:=hown.cells (g:=g) rfl
    have hcv:=run_convert_bytes_back (P:=Tryz.prog) w2 227 9 5 ⟨g,0,none⟩ cap (zg1 n) Tryz.underlying227 Tryz.underlying5 Tryz.underlying9 (by
     intro j hj
     exact hcell j _ (by simp only[bC,List.getElem?_map,List.getElem?_eq_getElem hj,Option.map_some]))
    have HBB:=PLift.up hbb
    clear hown hbb hg hcell e hfin HI hgc
    generalize hq:(zg1 n).length=q at *
    clear hlen hdl hB
    go_wp2_with fail
    go_returns
    exact⟨rfl,HBB.down⟩
def zcs (s:ByteArray):ByteArray × Int :=
 if s.size<4 then (⟨#[]⟩,3)else if zhg (s.extract 0 (s.size-4))=s then (s.extract 0 (s.size-4),0)else (⟨#[]⟩,5)
theorem zrw (s:ByteArray) (h:4≤s.size):(s.extract 0 (s.size-4)).size=s.size-4:=by rw[ByteArray.size_extract];omega
set_option maxHeartbeats 800000 in
theorem z53 (s:ByteArray) (w:World) (hs:s.size≤140737488351232) :
 Calls Tryz.prog 35 #[.string s] w fun e w'=>e = .returned (.tuple #[.string (zcs s).1,.int .i64 (zcs s).2])∧Below w.heap.size w w':=by
 by_cases h4:s.size<4
 ·have hr:zcs s=(⟨#[]⟩,3):=by simp[zcs,h4]
  rw[hr]
  go_enter Tryz.func35,Tryz.ntmps35
  go_wp2_with fail
  go_ret2
  exact⟨rfl,Below.refl _ _⟩
 ·have hex:=zrw s (by omega)
  by_cases hq:zhg (s.extract 0 (s.size-4))=s
  ·have hr:zcs s=(s.extract 0 (s.size-4),0):=by simp[zcs,h4,hq]
   rw[hr]
   have HQ:=Lib.hid hq;clear hq hr
   go_enter Tryz.func35,Tryz.ntmps35
   go_wp2_with fail
   refine(zn5 _ _ (by omega)).mono ?_
   rintro e w1 ⟨rfl,hb⟩
   rw[HQ.out]
   have HB:=Lib.hid hb;clear hb
   go_wp2_with fail
   go_ret2
   exact⟨rfl,HB.out⟩
  ·have hr:zcs s=(⟨#[]⟩,5):=by simp[zcs,h4,hq]
   rw[hr]
   go_enter Tryz.func35,Tryz.ntmps35
   go_wp2_with fail
   refine(zn5 _ _ (by omega)).mono ?_
   rintro e w1 ⟨rfl,hb⟩
   have HB:=Lib.hid hb;clear hb hr hex
   generalize zhg (s.extract 0 (s.size-4))=t at *
   have hne:=z8n hq
   clear hq
   go_wp2_with fail
   go_ret2
   exact⟨rfl,HB.out⟩
def vals (l:List UInt8):Nat:=l.foldr (fun b a=>b.toNat % 128+128*a) 0
theorem zsj (l k:List UInt8):vals (l++k)=vals l+128 ^ l.length*vals k:=by
 induction l with
 | nil=>simp[vals]
 | cons b l ih =>
  have e:vals (b::l++k)=b.toNat % 128+128*vals (l++k):=rfl
  have e2:vals (b::l)=b.toNat % 128+128*vals l:=rfl
  rw[e,e2,ih,List.length_cons,Nat.pow_succ,Nat.mul_add,Nat.mul_comm (128 ^ l.length) 128,Nat.mul_assoc];omega
theorem z9x (l:List UInt8):vals l<128 ^ l.length:=by
 induction l with
 | nil=>simp[vals]
 | cons b l ih =>
  have e2:vals (b::l)=b.toNat % 128+128*vals l:=rfl
  rw[e2,List.length_cons,Nat.pow_succ];omega
def zmm (s:ByteArray) (i:Nat):Nat:=vals (s.data.toList.take i) % 18446744073709551616
def zgs (s:ByteArray):Nat × ByteArray × Int :=
 match s.data.toList.findIdx? (fun b=>b<128)with
 | some i=>if i<10∧zi6 (zmm s (i+1))=s.extract 0 (i+1)then (zmm s (i+1),s.extract (i+1) s.size,0)else (0,⟨#[]⟩,4)
 | none=>(0,⟨#[]⟩,if s.size<10 then 3 else 4)
def ymq (s:ByteArray) (i:Nat):Prop:=∃h:i<s.size,s[i].toNat<128∧∀j (hj:j<i),128≤(s[j]'(by omega)).toNat
theorem z25 (s:ByteArray) (i:Nat) (h:i<s.size):s.data.toList[i]'(by simpa using h)=s[i]:=rfl
theorem z3s (s:ByteArray):(∃i,ymq s i∧s.data.toList.findIdx? (fun b=>b<128)=some i)∨((∀j (hj:j<s.size),128≤s[j].toNat)∧s.data.toList.findIdx? (fun b=>b<128)=none):=by
 cases h:s.data.toList.findIdx? (fun b=>b<128)with
 | some i =>
  refine .inl ⟨i,?_,rfl⟩
  rw[List.findIdx?_eq_some_iff_getElem]at h
  obtain⟨hi,h1,h2⟩:=h
  refine⟨by simpa using hi,?_,fun j hj => ?_⟩
  ·have h1':(s.data[i]'(by simpa using hi)).toNat<128:=by simpa[UInt8.lt_iff_toNat_lt]using h1
   exact h1'
  ·have:=h2 j hj
   have hi':i<s.data.size:=by simpa using hi
   have h2':128≤(s.data[j]'(by omega)).toNat:=by simpa[UInt8.lt_iff_toNat_lt]using this
   exact h2'
 | none =>
  refine .inr ⟨fun j hj => ?_,rfl⟩
  rw[List.findIdx?_eq_none_iff]at h
  have:=h s[j] (by rw[←z25 s j hj];exact List.getElem_mem _)
  simpa[UInt8.lt_iff_toNat_lt]using this
theorem zzp (s:ByteArray):zmm s 0=0:=rfl
theorem zzq (s:ByteArray) (i:Nat) (h:i<s.size) (h9:i<10):zmm s (i+1)=zmm s i+s[i].toNat % 128*128 ^ i % 18446744073709551616∧zmm s i<128 ^ i∧128 ^ i*2≤18446744073709551616:=by
 unfold zmm
 rw[zjq s i h,zsj]
 have hl:(s.data.toList.take i).length=i:=by simp;omega
 have hv:=z9x (s.data.toList.take i)
 rw[hl]at hv ⊢
 have e:vals [s[i]]=s[i].toNat % 128:=by simp[vals]
 rw[e]
 have hp:128 ^ i*2≤18446744073709551616:=by
  have:128 ^ i≤128 ^ 9:=Nat.pow_le_pow_right (by decide) (by omega)
  omega
 generalize vals (s.data.toList.take i)=v at *
 have hm:v % 18446744073709551616=v:=Nat.mod_eq_of_lt (by omega)
 rw[hm]
 refine⟨?_,hv,hp⟩
 rw[Nat.mul_comm (128 ^ i)]
 generalize s[i].toNat % 128=x at *
 have hdv:∃q,18446744073709551616=128 ^ i*q:=by
  refine⟨2 ^ (64-7*i),?_⟩
  rw[show (128:Nat)=2 ^ 7 from rfl,←Nat.pow_mul,←Nat.pow_add,show 7*i+(64-7*i)=64 from by omega]
 obtain⟨q,hq⟩:=hdv
 rw[hq,Nat.mul_comm x,Nat.mul_mod_mul_left,Nat.add_mod,Nat.mul_mod_mul_left,Nat.mod_eq_of_lt (show v<128 ^ i*q from by rw[←hq];omega)]
 have hq0 : 0 < q := by rcases Nat.eq_zero_or_pos q with rfl | h0; · simp at hq
                        ·exact h0
 have hxq:x % q<q:=Nat.mod_lt _ hq0
 apply Nat.mod_eq_of_lt
 have:128 ^ i*(x % q)+128 ^ i≤128 ^ i*q:=by rw[←Nat.mul_succ];exact Nat.mul_le_mul_left _ hxq
 omega
theorem zwl {s:ByteArray} {i:Nat} (h:s.data.toList.findIdx? (fun b=>b<128)=some i):zgs s=if i<10∧zi6 (zmm s (i+1))=s.extract 0 (i+1)then (zmm s (i+1),s.extract (i+1) s.size,0)else (0,⟨#[]⟩,4):=by simp[zgs,h]
theorem z23 {s:ByteArray} (h:s.data.toList.findIdx? (fun b=>b<128)=none):zgs s=(0,⟨#[]⟩,if s.size<10 then 3 else 4):=by simp[zgs,h]
structure Ends (s : ByteArray) (e : Nat) (r : Nat × ByteArray × Int) : Prop where
 le:e≤s.size
 big:∀j (hj:j<s.size),j<e→128≤s[j].toNat
 small:∀(h:e<s.size),s[e].toNat<128
 res:zgs s=r
theorem zwy (s:ByteArray):∃e r,Ends s e r∧(e<s.size→r=if e<10∧zi6 (zmm s (e+1))=s.extract 0 (e+1)then (zmm s (e+1),s.extract (e+1) s.size,0)else (0,⟨#[]⟩,4))∧(e=s.size→r=(0,⟨#[]⟩,if s.size<10 then 3 else 4)):=by
 rcases z3s s with ⟨i,⟨h1,h2,h3⟩,h4⟩|⟨h1,h2⟩
 ·exact⟨i,_,⟨by omega,fun j _ hj=>h3 j hj,fun _=>h2,rfl⟩,fun _=>zwl h4,fun h=>by omega⟩
 ·exact⟨s.size,_,⟨Nat.le_refl _,fun j hj _=>h1 j hj,fun h=>absurd h (Nat.lt_irrefl _),rfl⟩,fun h=>absurd h (Nat.lt_irrefl _),fun _=>z23 h2⟩
set_option maxHeartbeats 2000000 in
set_option maxRecDepth 20000 in
theorem z22 (s:ByteArray) (w:World) (hs:s.size≤140737488351232) :
 Calls Tryz.prog 81 #[.string s] w fun e w'=>e = .returned (.tuple #[.int .u64 (zgs s).1,.string (zgs s).2.1,.int .i64 (zgs s).2.2])∧Below w.heap.size w w':=by
 obtain⟨e,r,hE,hr1,hr2⟩:=zwy s
 rw[hE.res]
 have HE:=PLift.up hE
 have HR1:=PLift.up hr1
 have HR2:=PLift.up hr2
 have hle:=hE.le
 clear hE hr1 hr2
 go_enter Tryz.func81,Tryz.ntmps81
 go_wp2_with fail
 go_loop [5,6] (fun nv iv=>∃k:Nat,k≤e∧k≤10∧iv = .int .i64 k∧nv = .int .u64 (zmm s k)) (fun _ iv=>10-(intOf iv).toNat)
 case atStart=>exact⟨0,by omega,by omega,rfl,by rw[zzp];rfl⟩
 case round =>
  obtain⟨k,hk,hk10,rfl,rfl⟩:=hrel
  by_cases hlt:k<10
  ·by_cases hks:k<s.size
   ·obtain⟨hv1,hv2,hv3⟩:=zzq s k hks hlt
    have hb:k<e→128≤s[k].toNat:=fun h=>HE.down.big k hks h
    have hsm:¬k<e→s[k].toNat<128:=(fun h=>by
     obtain rfl:k=e:=by omega
     exact HE.down.small hks)
    have hx:=UInt8.toNat_lt s[k]
    have hn:bits .or .u64 (zmm s k:Nat) (IntKind.u64.wrap (IntKind.u64.wrap (bits .and .u8 (s[k].toNat:Int) 127)*2 ^ (7*k)))=((zmm s (k+1):Nat):Int):=by
     rw[u8_and127 _ (by omega) (by omega),IntKind.wrap_u64,IntKind.wrap_u64,hv1]
     have e1:((s[k].toNat:Int) % 128 % 18446744073709551616)=((s[k].toNat % 128:Nat):Int):=by omega
     have e2:((2:Int) ^ (7*k))=((128 ^ k:Nat):Int):=by rw[show (128:Nat) ^ k=2 ^ (7*k)from by rw[Nat.pow_mul]];simp
     rw[e1,e2,←Int.natCast_mul]
     have e3:((s[k].toNat % 128*128 ^ k:Nat):Int) % 18446744073709551616=((s[k].toNat % 128*128 ^ k % 18446744073709551616:Nat):Int):=by omega
     rw[e3,u64_or_nat _ _ (by omega) (by omega)]
     congr 1
     rw[Nat.or_comm,nat_join (7*k) _ _ ?_ ?_,Nat.add_comm]
     ·rw[show (2:Nat) ^ (7*k)=128 ^ k from by rw[Nat.pow_mul]]
      have hd:128 ^ k ∣ 18446744073709551616:=by
       refine⟨2 ^ (64-7*k),?_⟩
       rw[show (128:Nat)=2 ^ 7 from rfl,←Nat.pow_mul,←Nat.pow_add,show 7*k+(64-7*k)=64 from by omega]
      rw[Nat.mod_mod_of_dvd _ hd];exact Nat.mul_mod_left _ _
     ·rw[show (2:Nat) ^ (7*k)=128 ^ k from by rw[Nat.pow_mul]];exact hv2
    have hvl:zmm s (k+1)<18446744073709551616:=Nat.mod_lt _ (by decide)
    clear hv1 hv2 hv3
    by_cases hke:k<e
    ·have hbx:=hb hke
     clear hb hsm
     go_wp2_with fail
     go_round
     case rel=>exact⟨k+1,by omega,by omega,by go_num,rfl⟩
     case measure=>simp[intOf];omega
    ·have hsx:=hsm hke
     obtain rfl:k=e:=by omega
     clear hb hsm
     have hr:=HR1.down hks
     have k0:(0:Int)≤(k:Int)+1:=by omega
     have k1:(k:Int)+1≤(s.size:Int):=by omega
     have k2:IntKind.i64.wrap ((k:Int)+1)=(k:Int)+1:=IntWalk.i64_in _ (by omega)
     have k3:((k:Int)+1).toNat=k+1:=by omega
     by_cases hq:zi6 (zmm s (k+1))=s.extract 0 (k+1)
     ·rw[if_pos ⟨hlt,hq⟩]at hr
      subst hr
      have P:=PLift.up (fun w=>zn8 (zmm s (k+1)) hvl w)
      rw[hq]at P
      clear hq
      go_wp2_with fail
      go_region_held3 (fun _=>True) (trivial) (first|(go_at_call 108;refine(P.down _).mono ?_;rintro e w1 ⟨rfl,hb1⟩;have HB1:=PLift.up hb1;clear hb1))
      all_goals go_wp2_with fail
      all_goals(go_quiet (fail))
      all_goals go_wp2_with fail
      all_goals go_returns
      all_goals refine⟨?_,((Below.refl _ _).drew.trans HB1.down).drewn _⟩
      all_goals(simp;done)
     ·rw[if_neg (fun h=>hq h.2)]at hr
      subst hr
      have P:=PLift.up (fun w=>zn8 (zmm s (k+1)) hvl w)
      generalize zi6 (zmm s (k+1))=T at *
      have hne:=z8n hq
      clear hq
      go_wp2_with fail
      go_region_held3 (fun _=>True) (trivial) (first|(go_at_call 108;refine(P.down _).mono ?_;rintro e w1 ⟨rfl,hb1⟩;have HB1:=PLift.up hb1;clear hb1))
      all_goals go_wp2_with fail
      all_goals go_returns
      all_goals refine⟨?_,(Below.refl _ _).drew.trans HB1.down⟩
      all_goals(simp;done)
   ·have hr:=HR2.down (by omega)
    have hif:(if s.size<10 then (3:Int)else 4)=3:=if_pos (by omega)
    rw[hif]at hr
    subst hr
    go_wp2_with fail
    go_returns
    exact⟨rfl,Below.refl _ _⟩
  ·by_cases hks:k<s.size
   ·have hr:r=(0,⟨#[]⟩,4):=by
     by_cases he:e<s.size
     ·rw[HR1.down he,if_neg (by omega)]
     ·rw[HR2.down (by omega),if_neg (by omega)]
    subst hr
    go_wp2_with fail
    go_returns
    exact⟨rfl,Below.refl _ _⟩
   ·have hr:=HR2.down (by omega)
    have hif:(if s.size<10 then (3:Int)else 4)=4:=if_neg (by omega)
    rw[hif]at hr
    subst hr
    go_wp2_with fail
    go_returns
    exact⟨rfl,Below.refl _ _⟩
theorem z30:(Tryz.prog.info? 229).map (·.size)=some 2:=by kernel_rfl
set_option maxHeartbeats 1000000 in
set_option maxRecDepth 100000 in
theorem zmu (b:Nat) (w:World) (h0:w.cell? ⟨b,0,none⟩=some (.pointer (some ⟨b,0,none⟩))) :
 Calls Tryz.prog 144 #[.pointer (some ⟨b,0,none⟩)] w fun e w'=>e = .returned (.tuple #[])∧w'=w:=by
 obtain⟨j,hj,_⟩:=Option.map_eq_some_iff.1 z30
 go_enter Tryz.func144,Tryz.ntmps144
 go_wp2
 rw[Lib.run_neq_ptr_same w _ Tryz.underlying226 hj]
 go_wp2
 go_end0
 exact⟨rfl,rfl⟩
set_option maxHeartbeats 1000000 in
set_option maxRecDepth 100000 in
theorem zme (b:Nat) (w:World) (h0:w.cell? ⟨b,0,none⟩=some (.pointer none)) (hsh:w.shape? b=some (229,2)) (hfz:w.frozen? ⟨b,0,none⟩=false) :
 Calls Tryz.prog 144 #[.pointer (some ⟨b,0,none⟩)] w fun e w'=>e = .returned (.tuple #[])∧w'=w.setCell ⟨b,0,none⟩ (.pointer (some ⟨b,0,none⟩)):=by
 obtain⟨j,hj,hjs⟩:=Option.map_eq_some_iff.1 z30
 go_enter Tryz.func144,Tryz.ntmps144
 go_wp2
 rw[Lib.run_to_unsafe w ⟨b,0,none⟩ Tryz.underlying226 Tryz.underlying310 hj (by rw[hjs];decide) hsh (Nat.zero_lt_succ 1)]
 simp only[Result.andThen]
 rw[Oper.upon_value]
 go_wp2
 rw[run_callFunc_extern Tryz.func170 (by kernel_rfl) (by kernel_rfl) (by kernel_rfl) (e:=Extern.AbiNoEscape.same) (by kernel_rfl)]
 rw[Lib.run_noEscape]
 simp only[Result.andThen]
 rw[Oper.upon_value]
 go_wp2
 rw[Lib.run_from_unsafe w ⟨b,0,none⟩ Tryz.underlying310 Tryz.underlying226 hj hsh (by kernel_rfl)]
 simp only[Result.andThen]
 rw[Oper.upon_value]
 go_wp2
 go_end0
 exact⟨rfl,rfl⟩
theorem z3z (B b:Nat) (bs:List Value) (w:World) (h:Lib.IsBuilder 229 5 B b bs w) :
 Calls Tryz.prog 144 #[.pointer (some ⟨b,0,none⟩)] w fun e w'=>e = .returned (.tuple #[])∧(Lib.BuilderAt 229 5 B b (.pointer (some ⟨b,0,none⟩)) bs w'∧Below B w w'):=by
 rcases h with h|h
 ·refine(zme b w h.cell0 h.shape h.frozen0).mono ?_
  rintro e w' ⟨rfl,rfl⟩
  exact⟨rfl,h.used _,(Below.refl B w).setCell (p:=⟨b,0,none⟩) h.1 _⟩
 ·refine(zmu b w h.cell0).mono ?_
  rintro e w' ⟨rfl,rfl⟩
  exact⟨rfl,h,Below.refl B _⟩
set_option maxHeartbeats 2000000 in
set_option maxRecDepth 100000 in
theorem zr5 (B b:Nat) (bs:List Value) (s:ByteArray) (w:World) (h:Lib.IsBuilder 229 5 B b bs w) (hlen:bs.length+s.size≤140737488355328) (hBw:B≤w.heap.size) :
 Calls Tryz.prog 107 #[.pointer (some ⟨b,0,none⟩),.string s] w fun e w'=>e = .returned (.tuple #[.int .i64 s.size,.nilIface])∧(Lib.BuilderAt 229 5 B b (.pointer (some ⟨b,0,none⟩)) (bs++Lib.strCells s) w'∧Below B w w'):=by
 obtain⟨i0,hi,hz0,hz1,hz2⟩:=info_parts (show (Tryz.prog.info? 5).map (fun i=>(i.zero,i.size,i.bytes))=some (some (.int .u8 0),1,1)by kernel_rfl)
 go_enter Tryz.func107,Tryz.ntmps107
 go_wp2_with (go_at_call 144;refine(z3z B b bs _ h).mono ?_)
 rintro e w1 ⟨rfl,h1,hb1⟩
 obtain⟨hB,v,hbk,hown,hne⟩:=h1
 have c0:w1.cell? ⟨b,0,none⟩=some (.pointer (some ⟨b,0,none⟩)):=by rw[Lib.cell_of_heap hbk];rfl
 have c1:w1.cell? ⟨b,1,none⟩=some v:=by rw[Lib.cell_of_heap hbk];rfl
 go_wp2_with (at_builtin;refine Lib.wpList_append_own_string _ rfl _ _ 227 9 rfl B 5 i0 Tryz.underlying227 Tryz.underlying9 hi hz0 hz1 hz2 _ _ _ rfl hown s rfl ?c3 ?c4 ?c5 ?_)
 case c3=>unfold maxLen;omega
 case c4=>omega
 case c5=>have:=hb1.size;omega
 intro v' w2 hown' hgrow _
 have hlt:b<w1.heap.size:=by
  rcases Nat.lt_or_ge b w1.heap.size with h'|h'
  ·exact h'
  ·simp[Array.getElem?_eq_none h']at hbk
 have hb2:w2.heap[b]? = some (.cells #[.pointer (some ⟨b,0,none⟩),v] 229 (0,0)):=by
  rw[hgrow.block b hlt (fun e=>hne e.symm)]
  exact hbk
 have d0:w2.cell? ⟨b,0,none⟩=some (.pointer (some ⟨b,0,none⟩)):=by rw[Lib.cell_of_heap hb2];rfl
 have d1:w2.cell? ⟨b,1,none⟩=some v:=by rw[Lib.cell_of_heap hb2];rfl
 have f1:w2.frozen? ⟨b,1,none⟩=false:=Lib.frozen_of_heap hb2 1
 obtain⟨ao,n',cap,rfl⟩:∃ao n' cap,v' = .slice ao n' cap:=by
  rcases hown'.2 with ⟨hv,_⟩|⟨g,cap,cur,hv,_⟩
  ·exact⟨_,_,_,hv⟩
  ·exact⟨_,_,_,hv⟩
 go_wp2
 go_ret2
 refine⟨rfl,?_,?_⟩
 ·exact Lib.BuilderAt.put (T:=229) (e:=5) hB hb2 (bs':=bs++Lib.strCells s) (by simpa[Lib.strCells_length]using hown') (by decide)
 ·exact(hb1.grown hgrow (by have:=hb1.size;omega) (fun k hk=>(hown.lt k hk).1)).setCell (p:=⟨b,1,none⟩) hB _
theorem zxa {w w':World} {B b:Nat} {bs:List Value} (h:Lib.IsBuilder 229 5 B b bs w) (hb:Below w.heap.size w w'):Lib.IsBuilder 229 5 B b bs w':=by
 have key:∀p,Lib.BuilderAt 229 5 B b p bs w→Lib.BuilderAt 229 5 B b p bs w':=by
  rintro p ⟨h1,v,h2,ho,h3⟩
  refine⟨h1,v,(hb.block b (Array.getElem?_eq_some_iff.1 h2).1).trans h2,?_,h3⟩
  refine⟨ho.1,?_⟩
  rcases ho.2 with ⟨g1,g2⟩|⟨g,cap,cur,g1,g2,g3,g4⟩
  ·exact .inl ⟨g1,g2⟩
  ·exact .inr ⟨g,cap,cur,g1,g2,(hb.block g (Array.getElem?_eq_some_iff.1 g3).1).trans g3,g4⟩
 exact h.imp (key _) (key _)
def paN (n:Int):List UInt8:=zg1 (zge n)
def paK (xs:List Int) (k:Nat):List UInt8:=zg1 xs.length++(xs.take k).flatMap paN
def paR (xs:List Int):ByteArray × Int:=if 1000<xs.length then (⟨#[]⟩,2)else (⟨(paK xs xs.length).toArray⟩,0)
theorem zqu (n:Nat):(zg1 n).length≤10:=(zid 9 n).2
theorem zlj (xs:List Int) (k:Nat):(paK xs k).length≤10+10*k:=by
 unfold paK
 rw[List.length_append]
 have h1:=zqu xs.length
 have h2:∀l:List Int,(l.flatMap paN).length≤10*l.length:=by
  intro l
  induction l with
  | nil=>simp
  | cons x l ih =>
   have:=zqu (zge x)
   have e:paN x=zg1 (zge x):=rfl
   rw[List.flatMap_cons,List.length_append,List.length_cons,e];omega
 have h3:=h2 (xs.take k)
 have h4:(xs.take k).length≤k:=List.length_take_le _ _
 omega
theorem z50 (xs:List Int) (k:Nat) (h:k<xs.length):paK xs (k+1)=paK xs k++zg1 (zge xs[k]):=by
 unfold paK
 rw[zxp xs k h,List.flatMap_append,List.append_assoc];simp[paN]
set_option maxHeartbeats 2000000 in
set_option maxRecDepth 20000 in
theorem zya (a:Option Addr) (c B:Nat) (xs:List Int) (w:World) (hE:Els w B a 1 z7g xs) (hx:∀x∈xs,I64 x) (hl:xs.length≤140737488351232) (hB:B≤w.heap.size) :
 Calls Tryz.prog 62 #[.slice a xs.length c] w fun e w'=>e = .returned (.tuple #[.string (paR xs).1,.int .i64 (paR xs).2])∧Below w.heap.size w w':=by
 have HE:=PLift.up hE
 have HX:=PLift.up hx
 clear hE hx
 by_cases hn:1000<xs.length
 ·rw[show paR xs=(⟨#[]⟩,2)from if_pos hn]
  go_enter Tryz.func62,Tryz.ntmps62
  go_wp2_with fail
  go_returns
  exact⟨rfl,Below.refl _ _⟩
 ·rw[show paR xs=(⟨(paK xs xs.length).toArray⟩,0)from if_neg hn]
  go_enter Tryz.func62,Tryz.ntmps62
  go_wp2_with fail
  refine(zn8 xs.length (by omega) _).mono ?_
  rintro e w1 ⟨rfl,hb1⟩
  have BL:PLift (Lib.IsBuilder 229 5 w.heap.size w.heap.size [] w1):=PLift.up (zxa (Lib.fresh_isBuilder 229 5 w) hb1)
  have HB1:PLift (Below w.heap.size w w1):=PLift.up ((z32 w _).trans (hb1.mono (by simp)))
  have hs1:=HB1.down.size
  clear hb1
  have hp0:zi6 xs.length=⟨(paK xs 0).toArray⟩:=by simp[paK,zi6]
  rw[hp0]
  clear hp0
  go_wp2_with fail
  refine(zr5 w.heap.size w.heap.size [] _ w1 BL.down (by rw[zpf];have:=zlj xs 0;simp;omega) hs1).mono ?_
  rintro e w2 ⟨rfl,hw2,hb2⟩
  have BL2:PLift (Lib.IsBuilder 229 5 w.heap.size w.heap.size (Lib.byteCells (paK xs 0)) w2):=PLift.up (.inr hw2)
  have HB2:=PLift.up (HB1.down.trans hb2)
  clear hw2 hb2 BL HB1 hs1
  go_wp2_with fail
  go_loopw [17] (fun iv wr=>∃(k:Nat),k≤xs.length∧iv = .int .i64 k∧Hid (Lib.IsBuilder 229 5 w.heap.size w.heap.size (Lib.byteCells (paK xs k)) wr∧Below w.heap.size w wr)) (fun iv _=>xs.length-(intOf iv).toNat)
  case atStart=>exact⟨0,by omega,rfl,BL2.down,HB2.down⟩
  case round =>
   obtain⟨k,hk,rfl,hI⟩:=hrel
   have hBw:=hI.out.2.size
   by_cases hlt:k<xs.length
   ·obtain⟨b,o,rfl,hb,hc⟩:=(HE.down.below hI.out.2 hB).i64 k hlt
    have hxk:=HX.down xs[k] (List.getElem_mem hlt)
    have hs:=z50 xs k hlt
    have hkl:=zlj xs k
    generalize xs[k]=x at *
    have hf:=zws x hxk
    have hps:=zyc (zge x)
    have F:=PLift.up (z7b x hxk)
    have Q:=PLift.up (fun w=>zn8 (zge x) hf w)
    have HS:PLift (Lib.byteCells (paK xs k)++Lib.strCells (zi6 (zge x))=Lib.byteCells (paK xs (k+1))):=PLift.up (by rw[hs];simp[Lib.byteCells,Lib.strCells,zi6])
    generalize zge x=y at *
    generalize zi6 y=Y at *
    have HI:=PLift.up hI.out
    clear hI hs hxk
    go_wp2_with fail
    refine(F.down _).mono ?_
    rintro e w2 ⟨rfl,rfl⟩
    go_wp2_with fail
    refine(Q.down _).mono ?_
    rintro e w2 ⟨rfl,hb2⟩
    have BL3:=PLift.up (zxa HI.down.1 hb2)
    have HB3:=PLift.up (HI.down.2.trans (hb2.mono hBw))
    have hBw3:=HB3.down.size
    clear hb2
    go_wp2_with fail
    refine(zr5 w.heap.size w.heap.size _ _ w2 BL3.down (by simp[Lib.byteCells];omega) hBw3).mono ?_
    rintro e w3 ⟨rfl,hw3,hb3⟩
    have HB4:=PLift.up (HB3.down.trans hb3)
    have HW3:=PLift.up hw3
    clear hw3 hb3
    go_wp2_with fail
    go_roundw
    case rel=>exact⟨k+1,by omega,by go_num,by rw[←HS.down];exact .inr HW3.down,HB4.down⟩
    case measure=>simp[intOf];omega
   ·obtain rfl:k=xs.length:=by omega
    have HI:=PLift.up hI.out
    clear hI
    go_wp2_with fail
    refine(Tryz.Builder_String_any w.heap.size w.heap.size (paK xs xs.length) wr HI.down.1 hBw).mono ?_
    rintro e w2 ⟨rfl,hb2⟩
    have HB2:=PLift.up (HI.down.2.trans hb2)
    clear hb2
    go_wp2_with fail
    go_returns
    exact⟨rfl,HB2.down⟩
def mk (m:Nat) (xs:List Nat):Nat:=xs.foldl (fun m n=>m ^^^ mx n) m
theorem yj8 (xs:List Nat):∀m,m<18446744073709551616→mk m xs<18446744073709551616:=by
 induction xs with
 | nil=>intro m h;exact h
 | cons x xs ih=>intro m h;exact ih _ (z9n _ _ h (z6f x))
theorem yb3 (m:Nat) (xs:List Nat) (x:Nat):mk m (xs ++ [x])=mk m xs ^^^ mx x:=by simp[mk]
structure U64s where
 a:Option Addr
 c:Nat
 xs:List Nat
def U64s.val (u:U64s):Value := .slice u.a u.xs.length u.c
def U64s.enc (u:U64s):List Value := [u.val]
def cnt (l:List Nat) (i k:Nat):Nat:=(l.take k).count (l.getD i 0)
def pcK (n:Nat):Nat→Nat
 | 0=>0
 | k+1=>pcK n k+n/2 ^ k % 2
theorem zqp (n:Nat):∀k,pcK n k≤k
 | 0=>Nat.le_refl _
 | k+1=>by have:=zqp n k;have:n/2 ^ k % 2<2:=Nat.mod_lt _ (by decide);simp only[pcK];omega
theorem yba:∀m:Fin 256,Lib.pop8 (m.val:Int)=(pcK m.val 8:Int):=by decide +kernel
theorem zkg (x:Nat):Lib.pop8 ((x:Int) % 256)=(pcK x 8:Int):=by
 have h:=yba ⟨x % 256,Nat.mod_lt _ (by decide)⟩
 simp only at h
 rw[show ((x:Int) % 256)=((x % 256:Nat):Int)from by omega,h]
 congr 1
 simp only[pcK]
 omega
theorem zoa (n a:Nat):∀b,pcK n (a+b)=pcK n a+pcK (n/2 ^ a) b
 | 0=>rfl
 | b+1=>by
  show pcK n (a+b)+n/2 ^ (a+b) % 2=pcK n a+(pcK (n/2 ^ a) b+n/2 ^ a/2 ^ b % 2)
  rw[zoa n a b,Nat.pow_add,Nat.div_div_eq_div_mul,Nat.add_assoc]
theorem ymd (n:Nat):pcK n 32=pcK (n/16777216) 8+pcK (n/65536) 8+pcK (n/256) 8+pcK n 8:=by
 have e1:=zoa n 8 24
 have e2:=zoa (n/2 ^ 8) 8 16
 have e3:=zoa (n/2 ^ 8/2 ^ 8) 8 8
 simp only[Nat.div_div_eq_div_mul,←Nat.pow_add,Nat.reduceAdd,Nat.reducePow,Nat.reduceMul]at e1 e2 e3
 omega
theorem ymc (n:Nat) (hn:n<4294967296):(Lib.pop8 ((n:Int)/16777216)+Lib.pop8 ((n:Int)/65536 % 256)+Lib.pop8 ((n:Int)/256 % 256)+Lib.pop8 ((n:Int) % 256)) % 256=(pcK n 32:Int):=by
 have e0:((n:Int)/16777216)=((n/16777216:Nat):Int) % 256:=by omega
 have e1:((n:Int)/65536)=((n/65536:Nat):Int):=by omega
 have e2:((n:Int)/256)=((n/256:Nat):Int):=by omega
 rw[e0,e1,e2,zkg,zkg,zkg,zkg]
 have:=ymd n
 have:=zqp n 32
 omega
set_option maxRecDepth 100000 in
set_option maxHeartbeats 800000 in
theorem ydg (n:Nat) (w:World) (hn:n<4294967296) :
 Calls Tryz.prog 61 #[.int .u32 n] w fun e w'=>e = .returned (.int .i64 (pcK n 32:Nat))∧w.drew=w':=by
 have p0:(0:Int)≤(n:Int)/16777216:=by omega
 have p1:(n:Int)/16777216≤255:=by omega
 have q0:bits .and .u32 ((n:Int)/65536) 255=(n:Int)/65536 % 256:=by
  rw[u32_and _ _ (by omega) (by omega) (by omega) (by omega),show ((255:Int).toNat)=2^8-1 from rfl,Nat.and_two_pow_sub_one_eq_mod]
  omega
 have q1:bits .and .u32 ((n:Int)/256) 255=(n:Int)/256 % 256:=by
  rw[u32_and _ _ (by omega) (by omega) (by omega) (by omega),show ((255:Int).toNat)=2^8-1 from rfl,Nat.and_two_pow_sub_one_eq_mod]
  omega
 have q2:bits .and .u32 (n:Int) 255=(n:Int) % 256:=by
  rw[u32_and _ _ (by omega) (by omega) (by omega) (by omega),show ((255:Int).toNat)=2^8-1 from rfl,Nat.and_two_pow_sub_one_eq_mod]
  omega
 go_enter Tryz.func61,Tryz.ntmps61
 go_wp2
 go_region
 go_wp2
 go_ret
 all_goals(first|exact⟨z00 (ymc n hn),rfl⟩|rfl)
def zhx (n:Nat) (k:Int):Bool:=decide (0≤k∧k<32)&&(n/2 ^ k.toNat % 2 == 1)
def zbj (n k:Nat):Bool:=n/2 ^ k % 2 == 1
theorem zep (n k:Nat):zbj n k=n.testBit k:=by
 rw[Nat.testBit_eq_decide_div_mod_eq];exact Bool.eq_iff_iff.2 (by simp[zbj])
theorem ztr (n k:Nat) (h:k<32):zhx n (k:Int)=zbj n k:=by
 unfold zhx zbj
 rw[Int.toNat_natCast,decide_eq_true (by omega),Bool.true_and]
theorem ztq (n:Nat) (k:Int) (hn:n<65536) (h:¬(0≤k∧k<16)):zhx n k=false:=by
 unfold zhx
 by_cases h1:0≤k∧k<32
 ·have:2 ^ 16≤2 ^ k.toNat:=Nat.pow_le_pow_right (by decide) (by omega)
  rw[Nat.div_eq_of_lt (by omega)]
  simp
 ·rw[decide_eq_false h1];rfl
def clr (n k:Nat):Nat:=if zbj n k then n-2 ^ k else n
theorem zs9 (k:Nat) (hk:k<32):0<2 ^ k∧2 ^ k≤2147483648:=⟨Nat.pow_pos (by decide),Nat.pow_le_pow_right (show 0<2 by decide) (show k≤31 by omega)⟩
theorem z38 (n k:Nat) (hn:n<4294967296) (hk:k<32):n &&& (4294967295-2 ^ k)=clr n k:=by
 obtain⟨hp0,hp⟩:=zs9 k hk
 have hz:(BitVec.ofNat 32 n &&& ~~~BitVec.ofNat 32 (2 ^ k)) &&& (BitVec.ofNat 32 n &&& BitVec.ofNat 32 (2 ^ k))=0#32:=by
  ext i hi
  simp only[BitVec.getElem_and,BitVec.getElem_not,BitVec.getElem_zero]
  cases (BitVec.ofNat 32 n)[i]<;>cases (BitVec.ofNat 32 (2 ^ k))[i]<;>rfl
 have h3:(BitVec.ofNat 32 n &&& ~~~BitVec.ofNat 32 (2 ^ k)) ||| (BitVec.ofNat 32 n &&& BitVec.ofNat 32 (2 ^ k))=BitVec.ofNat 32 n:=by
  ext i hi
  simp only[BitVec.getElem_and,BitVec.getElem_not,BitVec.getElem_or]
  cases (BitVec.ofNat 32 n)[i]<;>cases (BitVec.ofNat 32 (2 ^ k))[i]<;>rfl
 have h1:=BitVec.toNat_add_of_and_eq_zero hz
 rw[BitVec.add_eq_or_of_and_eq_zero _ _ hz,h3]at h1
 simp only[BitVec.toNat_and,BitVec.toNat_not,BitVec.toNat_ofNat]at h1
 rw[Nat.mod_eq_of_lt (show n<2 ^ 32 by omega),Nat.mod_eq_of_lt (show 2 ^ k<2 ^ 32 by omega),nat_bit,show 2 ^ 32-1-2 ^ k=4294967295-2 ^ k from by omega]at h1
 unfold clr zbj
 rcases Nat.mod_two_eq_zero_or_one (n/2 ^ k)with h|h
 ·rw[h]at h1 ⊢;rw[if_neg (by decide)];omega
 ·rw[h]at h1 ⊢;rw[if_pos (by decide)];omega
theorem z1e (n k:Nat) (hn:n<4294967296) (hk:k<32) (hb:zbj n k=false):n ||| 2 ^ k=n+2 ^ k∧n+2 ^ k<4294967296:=by
 obtain⟨hp0,hp⟩:=zs9 k hk
 have h0:n/2 ^ k % 2=0:=by
  rcases Nat.mod_two_eq_zero_or_one (n/2 ^ k)with h|h
  ·exact h
  ·simp[zbj,h]at hb
 have hz:BitVec.ofNat 32 n &&& BitVec.ofNat 32 (2 ^ k)=0#32:=by
  apply BitVec.eq_of_toNat_eq
  simp only[BitVec.toNat_and,BitVec.toNat_ofNat]
  rw[Nat.mod_eq_of_lt (show n<2 ^ 32 by omega),Nat.mod_eq_of_lt (show 2 ^ k<2 ^ 32 by omega),nat_bit,h0];simp
 have h1:=BitVec.toNat_add_of_and_eq_zero hz
 rw[BitVec.add_eq_or_of_and_eq_zero _ _ hz]at h1
 simp only[BitVec.toNat_or,BitVec.toNat_ofNat]at h1
 rw[Nat.mod_eq_of_lt (show n<2 ^ 32 by omega),Nat.mod_eq_of_lt (show 2 ^ k<2 ^ 32 by omega)]at h1
 have:n ||| 2 ^ k<2 ^ 32:=Nat.or_lt_two_pow (by omega) (by omega)
 omega
theorem znl (n k:Nat):clr n k≤n:=by
 unfold clr
 split
 ·exact Nat.sub_le _ _
 ·exact Nat.le_refl _
theorem zo8 (k:Nat):clr 0 k=0:=Nat.le_zero.1 (znl 0 k)
theorem ybb:pcK 0 32=0:=by decide
def z8k (m s:Nat):Bool:=decide (pcK m 32<2*pcK s 32)
def znw (m:Nat) (g:List Nat):Option Nat:=g.findIdx? (z8k m)
def lv (g:List Nat) (k:Nat):List Nat:=(g.set k 0).map (clr · k)
theorem zv2 (g:List Nat) (k:Nat):(lv g k).length=g.length:=by simp[lv]
def zmj:Nat→Nat→List Nat→Nat × List Nat
 | 0,m,g=>(m,g)
 | n+1,m,g=>match znw m g with
  | none=>(m,g)
  | some k=>zmj n (clr m k) (lv g k)
def nz (g:List Nat):Nat:=g.countP (fun s=>decide (s≠0))
theorem z57 (g:List Nat) (k:Nat) (h:k<g.length) (h0:g[k]≠0):nz (lv g k)<nz g:=by
 have h1:nz (lv g k)≤nz (g.set k 0):=by
  unfold nz lv
  rw[List.countP_map]
  apply List.countP_mono_left
  intro x _ hx
  simp only[Function.comp,decide_eq_true_eq]at hx ⊢
  intro he;rw[he,zo8]at hx;exact hx rfl
 have h2:nz (g.set k 0)+1=nz g:=by
  unfold nz
  rw[List.countP_set h]
  have hp:0<g.countP (fun s=>decide (s≠0)):=List.countP_pos_iff.2 ⟨g[k],List.getElem_mem h,by simpa using h0⟩
  simp only[decide_eq_true_eq]
  rw[if_pos h0,if_neg (by simp)]
  omega
 omega
theorem z5j (n m:Nat) (g:List Nat) (h:znw m g=none):zmj n m g=(m,g):=by
 cases n with
 | zero=>rfl
 | succ n=>rw[zmj,h]
theorem zh0 (m:Nat) (g:List Nat) (k:Nat) (h:znw m g=some k):∃hk:k<g.length,z8k m g[k]=true∧g[k]≠0:=by
 unfold znw at h
 rw[List.findIdx?_eq_some_iff_getElem]at h
 obtain⟨hk,h1,_⟩:=h
 refine⟨hk,h1,?_⟩
 intro h0
 rw[h0]at h1
 simp[z8k,ybb]at h1
theorem z5i (n m:Nat) (g:List Nat) (k:Nat) (h:znw m g=some k) (hn:nz g≤n):∃n',nz (lv g k)≤n'∧zmj n m g=zmj n' (clr m k) (lv g k):=by
 obtain⟨hk,_,h0⟩:=zh0 m g k h
 have:=z57 g k hk h0
 cases n with
 | zero=>omega
 | succ n=>exact⟨n,by omega,by rw[zmj,h]⟩
theorem yfx (g:List Nat):nz g≤g.length:=List.countP_le_length
def z74 (m k s:Nat):Bool:=decide (s &&& (4294967295-m)≠0)||zbj s k||(decide (s≠0) && !zbj m k)
def yed (m k s j:Nat):Bool:=zbj s j&&(!zbj m k || !zbj m j||decide (j=k))
def za5 (m:Nat) (g:List Nat):Int:=if m=0∨65535<m then 1 else if g.length≠16 then 4 else if (List.range 16).any (fun k=>z74 m k (g.getD k 0))then 4 else if (znw m g).isSome then 4 else 0
theorem z33 (m k s:Nat) (hm:m<4294967296) (hs:s<4294967296) (hk:k<32):z74 m k s=true↔∃j,j<32∧yed m k s j=true:=by
 have hc:∀j,(s &&& (4294967295-m)).testBit j=(s.testBit j && !m.testBit j):=by
  intro j
  rw[Nat.testBit_and,show 4294967295-m=2 ^ 32-(m+1)from by omega,Nat.testBit_two_pow_sub_succ (by omega)]
  by_cases hj:j<32
  ·simp[hj]
  ·have:s.testBit j=false:=Nat.testBit_lt_two_pow (Nat.lt_of_lt_of_le hs (show 2 ^ 32≤2 ^ j from Nat.pow_le_pow_right (by decide) (by omega)))
   simp[this]
 have h32:∀j,s.testBit j=true→j<32:=by
  intro j hj
  rcases Nat.lt_or_ge j 32 with h|h
  ·exact h
  ·rw[Nat.testBit_lt_two_pow (Nat.lt_of_lt_of_le hs (show 2 ^ 32≤2 ^ j from Nat.pow_le_pow_right (by decide) h))]at hj
   exact absurd hj (by decide)
 unfold z74 yed
 simp only[zep,Bool.or_eq_true,decide_eq_true_eq,Bool.and_eq_true,Bool.not_eq_true']
 constructor
 ·rintro ((h|h)|⟨h1,h2⟩)
  ·obtain⟨j,hj⟩:=Nat.exists_testBit_of_ne_zero h
   rw[hc,Bool.and_eq_true,Bool.not_eq_true']at hj
   exact⟨j,h32 j hj.1,hj.1,.inl (.inr hj.2)⟩
  ·exact⟨k,hk,h,.inr rfl⟩
  ·obtain⟨j,hj⟩:=Nat.exists_testBit_of_ne_zero h1
   exact⟨j,h32 j hj,hj,.inl (.inl h2)⟩
 ·rintro⟨j,_,h1,(h|h)|rfl⟩
  ·right
   refine⟨?_,h⟩
   rintro rfl
   simp at h1
  ·left;left
   intro h0
   have:=hc j
   rw[h0,h1,h]at this
   simp at this
  ·exact .inl (.inr h1)
def zch (m:Nat) (g:List Nat) (b a:Int):(Nat × List Nat) × Bool × Int :=
 if za5 m g≠0 then ((0,[]),false,za5 m g)
 else if (zhx m b&&zhx m a)=false then ((0,[]),false,7)
 else if b=a then ((0,[]),false,1)
 else if zbj (g.getD a.toNat 0) b.toNat then ((0,[]),false,8)
 else (zmj 16 m (g.set a.toNat (g.getD a.toNat 0+2 ^ b.toNat)),!zbj (zmj 16 m (g.set a.toNat (g.getD a.toNat 0+2 ^ b.toNat))).1 a.toNat,0)
theorem zi2 (m:Nat) (g:List Nat) (h:za5 m g=0):(0<m∧m≤65535)∧g.length=16∧(∀k,k<16→z74 m k (g.getD k 0)=false)∧znw m g=none:=by
 unfold za5 at h
 split at h
 ·simp at h
 split at h
 ·simp at h
 split at h
 ·simp at h
 split at h
 ·simp at h
 rename_i h1 h2 h3 h4
 refine⟨by omega,by simpa using h2,?_,by simpa using h4⟩
 intro k hk
 simp only[Bool.not_eq_true,List.any_eq_false]at h3
 simpa using h3 k (by simp[hk])
theorem Conc.ghost {H:Hist} {s:St} {F F':Nat→Prop} {β β':Nat→Option Bind} {a:Act} {w:World} (C:Conc H s F β a w) {h':List (Nat × Chunk)} {n':Nat} (hn:s.n≤n') (M:MemOk H.W H.N (· < n') F' β' (zaf h') w) (E:Ext (· < s.n) F β w (· < n') F' β' w)
 (hg:∀b,F' b→F b∨∃i bd,β i=some bd∧bd.has b):Conc H ⟨s.t,h',n'⟩ F' β' a w:=by
 refine⟨fun t=>RelA.mono E _ _ (C.t t),M,C.nt,C.d.mono E.f,fun b hb=>(E.f b (C.f b hb)).1,fun b hb => ?_,fun i bd hi hb => ?_,Nat.le_trans C.k hn⟩
 ·rcases hg b hb with h|⟨i,bd,h1,h2⟩
  ·exact C.g b h
  ·exact .inr (C.m.off i bd b h1 h2).2.2
 ·obtain⟨bs,h1⟩:=E.e i bd (Nat.lt_of_lt_of_le hi C.k) hb
  exact C.e i ⟨_,_,_,_,bs⟩ hi h1
theorem MemOk.here' {W:World} {N U F:Nat→Prop} {β : Nat→Option Bind} {h:Nat→Chunk} {w:World} (M:MemOk W N U F β h w) {id:Nat} {c:Chunk} (hc:h id=c) (hd:c ≠ .dead):∃bd,β id=some bd∧ChOk U w F β bd c:=M.get (fun _ _=>rfl) hc hd
theorem To.nst {k:Nat} {s:St} (id e sz c e2 sz2:Nat) (xs:List (List PV)) (hc:zaf s.h id = .row e sz xs) (hcs:c<sz) (hx:∀x∈xs,x[c]? = some (.v (.slice none 0 0))) :
 ToK k s ⟨s.t,(id,.nst e sz c e2 sz2 xs (List.replicate xs.length []) none)::s.h,s.n⟩:=by
 intro H F β a w hk C
 obtain⟨bd,hb,q1,q2,q3,q4⟩:=C.m.here' hc (by simp)
 have hU:=C.m.used _ _ hb
 obtain⟨S1,S2⟩:=C.m.step (w':=w) (h':=zaf ((id,.nst e sz c e2 sz2 xs (List.replicate xs.length []) none)::s.h)) (β' := β) (F':=F) (U':=(· < s.n)) (fun i=>i=id)
  (fun i hi=>rfl) (fun i hi=>by simp only[zaf,if_neg (Ne.symm hi)]) rfl rfl rfl (Nat.le_refl _) (fun _ _ _=>rfl) (fun _ h=>h) (fun _ h=>h) (fun b hb=>⟨C.m.fin b hb,.inl hb⟩)
  (fun i bd' _ _ hb'=>⟨_,hb'⟩)
  (fun i bd' hi hb'=>by
   subst hi
   refine⟨hU,fun b hbb => ?_⟩
   have:=C.m.off _ _ b hb' hbb
   exact⟨this.2.1,this.1,.inr ⟨i,bd',rfl,hb',hbb⟩⟩)
  (fun i j _ _ _ hi hj _ _ _ _=>by rw[hi,hj])
  (fun E i hi _=>by
   subst hi
   refine⟨bd,hb,?_⟩
   simp only[zaf,if_true]
   refine⟨⟨q1.1,by rw[q1.2];simp⟩,q2,by simp,hcs,q3,?_⟩
   rcases q4 with ⟨h1,h2,h3⟩|⟨g,cap,cur,h5,h6,h7,h8,h9,h10,hE⟩
   ·exact .inl ⟨h1,h2,h3,rfl⟩
   ·refine .inr ⟨g,cap,cur,h5,h6,h7,h8,h9,h10,by rw[q1.2];simp,?_⟩
    have cel:∀i x,xs[i]? = some x→w.cell? ⟨g,i*sz+c,none⟩=some (.slice none 0 0):=by
     intro i x hxi
     obtain⟨_,hC⟩:=hE.at i x hxi
     obtain⟨u,hu,hr⟩:=hC.at c _ (hx x (List.mem_of_getElem? hxi))
     simp only[RelP]at hr
     rw[Nat.zero_add]at hu
     rw[hu,hr.1]
    refine⟨fun i x y hxi hyi j p hp => ?_,fun i i' b o o' n n' k1 k2 l1 l2 _ _ c1 _ => ?_,fun i id' ho=>by simp at ho⟩
    ·obtain⟨_,hC⟩:=hE.at i x hxi
     obtain⟨u,hu,hr⟩:=hC.at j p hp
     refine⟨u,by simpa using hu,?_⟩
     unfold NCell
     simp only[zhi]
     split
     ·rename_i hj
      subst hj
      have:=cel i x hxi
      rw[Nat.zero_add,this]at hu
      cases hu
      exact .inl ⟨rfl,(List.eq_of_mem_replicate (List.mem_of_getElem? hyi))⟩
     ·exact hr
    ·rw[cel i xs[i] (by simp[l1])]at c1
     simp at c1)
 exact⟨F,β,C.ghost (Nat.le_refl _) S1 S2 fun b hb => .inl hb⟩
theorem To.open {k:Nat} {s:St} (id i e sz c e2 sz2:Nat) (xs:List (List PV)) (ys:List (List (List PV))) (hc:zaf s.h id = .nst e sz c e2 sz2 xs ys none) (hi:i<xs.length) :
 ToK k s ⟨s.t,(id,.nst e sz c e2 sz2 xs ys (some (i,s.n)))::(s.n,.row e2 sz2 (ys.getD i []))::s.h,s.n+1⟩:=by
 intro H F β a w hk C
 obtain⟨bd,hb,q1,q2,q3,q4,q5,q6⟩:=C.m.here' hc (by simp)
 have hU:=C.m.used _ _ hb
 have hne:id≠s.n:=Nat.ne_of_lt hU
 have hb0:∀bd,β s.n≠some bd:=fun bd hb=>absurd (C.m.used _ bd hb) (Nat.lt_irrefl _)
 rcases q6 with ⟨_,rfl,_⟩|⟨g,cap,cur,h5,h6,h7,h8,h9,h10,h11,h12⟩
 ·simp at hi
 have hyi:i<ys.length:=by rw[q3];exact hi
 have hxi:xs[i]? = some xs[i]:=by simp[hi]
 have hyd:ys[i]? = some (ys.getD i []):=by simp[hyi]
 have hxl:xs[i].length=sz:=q5 _ (List.getElem_mem hi)
 obtain⟨u,hu,hn⟩:=h12.cells i _ _ hxi hyd c (xs[i][c]'(by rw[hxl];exact q4)) (by simp)
 have hn:InnOk w F bd.bs e2 sz2 (ys.getD i []) u:=by
  unfold NCell at hn
  simpa only[zhi,if_true]using hn
 -- the new piece
 obtain⟨bn,rest,e1,e2',e3,e4,e5,e6⟩:∃(bn:Bind) (rest:List Nat),bn.v=u∧ChOk (· < s.n+1) w F (zaq (zaq β id (some ⟨bd.v,bd.b,bd.n,bd.sz,rest⟩)) s.n (some bn)) bn (.row e2 sz2 (ys.getD i []))∧(∀b,bn.has b→b∈bd.bs∧b∉rest)∧(∀b,b∈rest→b∈bd.bs) ∧
  (∀b,b∈bd.bs→(∀o n q,u ≠ .slice (some ⟨b,o,none⟩) n q)→b∈rest)∧bn.bs = []:=by
  rcases hn with ⟨rfl,hy⟩|⟨g2,cap2,cur2,rfl,k2,k3,k4,k5,k6,k7⟩
  ·refine⟨⟨.slice none 0 0,none,0,sz2,[]⟩,bd.bs,rfl,?_,fun b hbb=>by have:=Bind.has_nil hbb;simp at this,fun b h=>h,fun b h _=>h,rfl⟩
   rw[hy]
   exact⟨⟨rfl,rfl⟩,rfl,by simp,.inl ⟨rfl,rfl,rfl⟩⟩
  ·refine⟨⟨.slice (some ⟨g2,0,none⟩) (ys.getD i []).length cap2,some g2,(ys.getD i []).length,sz2,[]⟩,bd.bs.filter (fun b => !(b == g2)),rfl,?_,fun b hbb => ?_,fun b h=>(List.mem_filter.1 h).1,fun b h hno => ?_,rfl⟩
   ·refine⟨⟨rfl,rfl⟩,rfl,fun cs hcs => ?_,.inr ⟨g2,cap2,cur2,rfl,rfl,k3,k4,k5,k6,k7⟩⟩
    obtain⟨q,hq⟩:=List.getElem?_of_mem hcs
    exact(k7.at q cs hq).1
   ·have:=Bind.has_nil hbb
    cases this
    exact⟨k2,by simp⟩
   ·refine List.mem_filter.2 ⟨h,?_⟩
    simp only[Bool.not_eq_true',beq_eq_false_iff_ne,ne_eq]
    rintro rfl
    exact hno _ _ _ rfl
 obtain⟨S1,S2⟩:=C.m.step (w':=w) (h':=zaf ((id,.nst e sz c e2 sz2 xs ys (some (i,s.n)))::(s.n,.row e2 sz2 (ys.getD i []))::s.h)) (β':=zaq (zaq β id (some ⟨bd.v,bd.b,bd.n,bd.sz,rest⟩)) s.n (some bn)) (F':=F) (U':=(· < s.n+1)) (fun i=>i=id∨i=s.n)
  (fun j hj=>by simp only[not_or]at hj;simp only[zaq,if_neg (Ne.symm hj.1),if_neg (Ne.symm hj.2)])
  (fun j hj=>by simp only[not_or]at hj;simp only[zaf,if_neg (Ne.symm hj.1),if_neg (Ne.symm hj.2)])
  rfl rfl rfl (Nat.le_refl _) (fun _ _ _=>rfl) (fun _ h=>Nat.lt_succ_of_lt h) (fun _ h=>h) (fun b hb=>⟨C.m.fin b hb,.inl hb⟩)
  (fun j bd' hj hu hb'=>by
   rcases hj with rfl|rfl
   ·simp only[zaq,if_neg (Ne.symm hne),if_true,Option.some.injEq]at hb'
    subst hb'
    exact⟨bd.bs,hb⟩
   ·exact absurd hu (Nat.lt_irrefl _))
  (fun j bd' hj hb'=>by
   rcases hj with rfl|rfl
   ·simp only[zaq,if_neg (Ne.symm hne),if_true,Option.some.injEq]at hb'
    subst hb'
    refine⟨Nat.lt_succ_of_lt hU,fun b hbb => ?_⟩
    have hbb':bd.has b:=hbb.imp id (e4 b)
    have:=C.m.off _ _ b hb hbb'
    exact⟨this.2.1,this.1,.inr ⟨j,bd,.inl rfl,hb,hbb'⟩⟩
   ·simp only[zaq,if_true,Option.some.injEq]at hb'
    subst hb'
    refine⟨Nat.lt_succ_self _,fun b hbb => ?_⟩
    have hbb':bd.has b := .inr (e3 b hbb).1
    have:=C.m.off _ _ b hb hbb'
    exact⟨this.2.1,this.1,.inr ⟨id,bd,.inl rfl,hb,hbb'⟩⟩)
  (fun j j' bj bj' b hj hj' hbj hbj' h1 h2=>by
   have key:∀b,(⟨bd.v,bd.b,bd.n,bd.sz,rest⟩:Bind).has b→bn.has b→False:=by
    intro b h1 h2
    obtain⟨m1,m2⟩:=e3 b h2
    rcases h1 with h1|h1
    ·rw[h5]at h1;cases h1;exact h11 m1
    ·exact m2 h1
   rcases hj with rfl|rfl<;>rcases hj' with rfl|rfl
   ·rfl
   ·simp only[zaq,if_neg (Ne.symm hne),if_true,Option.some.injEq]at hbj hbj'
    subst hbj hbj'
    exact(key b h1 h2).elim
   ·simp only[zaq,if_neg (Ne.symm hne),if_true,Option.some.injEq]at hbj hbj'
    subst hbj hbj'
    exact(key b h2 h1).elim
   ·rfl)
  (fun E j hj _=>by
   rcases hj with rfl|rfl
   ·refine⟨⟨bd.v,bd.b,bd.n,bd.sz,rest⟩,by simp[zaq,Ne.symm hne],?_⟩
    simp only[zaf,if_true]
    refine⟨⟨q1.1,fun b hbb=>q1.2 b (e4 b hbb)⟩,q2,q3,q4,q5,.inr ⟨g,cap,cur,h5,h6,h7,h8,h9,h10,fun h=>h11 (e4 g h),?_⟩⟩
    refine⟨fun i' x y hx hy j' p hp => ?_,fun i1 i2 b o1 o2 n1 n2 k1 k2 l1 l2 m1 m2 c1 c2=>h12.inj i1 i2 b o1 o2 n1 n2 k1 k2 l1 l2 rfl rfl c1 c2,fun i' id' ho => ?_⟩
    ·obtain⟨u',hu',hn'⟩:=h12.cells i' x y hx hy j' p hp
     refine⟨u',hu',?_⟩
     unfold NCell at hn' ⊢
     split
     ·rename_i hj'
      subst hj'
      simp only[if_true,zhi]at hn' ⊢
      by_cases hii:i=i'
      ·subst hii
       rw[hu']at hu
       cases hu
       rw[if_pos rfl]
       refine⟨Nat.lt_succ_self _,hn'.one,fun bd' hbd' => ?_⟩
       simp only[zaq,if_true,Option.some.injEq]at hbd'
       subst hbd'
       exact e1.symm
      ·rw[if_neg hii]
       rcases hn' with h|⟨g3,cap3,cur3,rfl,k2,k3⟩
       ·exact .inl h
       ·refine .inr ⟨g3,cap3,cur3,rfl,e5 g3 k2 fun o n q hq=>hii ?_,k3⟩
        subst hq
        exact h12.inj i i' g3 _ _ _ _ _ _ hi (List.getElem?_eq_some_iff.1 hx).1 rfl rfl hu hu'
     ·rename_i hj'
      rw[if_neg hj']at hn'
      exact hn'
    ·simp only[Option.some.injEq,Prod.mk.injEq]at ho
     obtain⟨rfl,rfl⟩:=ho
     exact⟨Nat.lt_succ_self _,hi⟩
   ·refine⟨bn,by simp[zaq],?_⟩
    simp only[zaf,if_neg hne,if_true]
    exact e2')
 exact⟨F,_,C.ghost (Nat.le_succ _) S1 S2 fun b hb => .inl hb⟩
theorem To.close {k:Nat} {s:St} (id i j e sz c e2 sz2:Nat) (xs:List (List PV)) (ys:List (List (List PV))) (zs:List (List PV)) (hc:zaf s.h id = .nst e sz c e2 sz2 xs ys (some (i,j))) (hj:zaf s.h j = .row e2 sz2 zs) :
 ToK k s ⟨s.t,(id,.nst e sz c e2 sz2 xs (ys.set i zs) none)::(j,.dead)::s.h,s.n⟩:=by
 intro H F β a w hk C
 obtain⟨bd,hb,q1,q2,q3,q4,q5,q6⟩:=C.m.here' hc (by simp)
 obtain⟨bj,hbj,z1,z2,z3,z4⟩:=C.m.here' hj (by simp)
 have hU:=C.m.used _ _ hb
 have hUj:=C.m.used _ _ hbj
 have hne:id≠j:=by rintro rfl;rw[hc]at hj;simp at hj
 rcases q6 with ⟨_,_,_,h⟩|⟨g,cap,cur,h5,h6,h7,h8,h9,h10,h11,h12⟩
 ·simp at h
 have hi:=(h12.opu _ _ rfl).2
 have hoth:∀i',zhi (some (i,j)) i'=none→¬i=i':=fun i' h hh=>by simp[zhi,hh]at h
 have jb:∀b,bj.b=some b→b∉bd.bs∧b≠g:=fun b hbb=>⟨fun h=>hne (C.m.dis id j bd bj b hb hbj (.inr h) (.inl hbb)),fun h=>hne (C.m.dis id j bd bj b hb hbj (.inl (h▸h5)) (.inl hbb))⟩
 let bd':Bind:=⟨bd.v,bd.b,bd.n,bd.sz,bj.b.toList++bd.bs⟩
 have hin:∀b,b∈bj.b.toList→bj.b=some b:=fun q hq=>by
  cases hb:bj.b with
  | none=>rw[hb]at hq;simp at hq
  | some q'=>rw[hb]at hq;simp at hq;rw[hq]
 have hhas:∀b,bd'.has b→bd.has b∨bj.has b:=by
  intro b hb
  rcases hb with hb|hb
  ·exact .inl (.inl hb)
  ·rcases List.mem_append.1 hb with hb|hb
   ·exact .inr (.inl (hin b hb))
   ·exact .inl (.inr hb)
 obtain⟨S1,S2⟩:=C.m.step (w':=w) (h':=zaf ((id,.nst e sz c e2 sz2 xs (ys.set i zs) none)::(j,.dead)::s.h)) (β':=zaq (zaq β id (some bd')) j none) (F':=F) (U':=(· < s.n)) (fun i=>i=id∨i=j)
  (fun j' hj=>by simp only[not_or]at hj;simp only[zaq,if_neg (Ne.symm hj.1),if_neg (Ne.symm hj.2)])
  (fun j' hj=>by simp only[not_or]at hj;simp only[zaf,if_neg (Ne.symm hj.1),if_neg (Ne.symm hj.2)])
  rfl rfl rfl (Nat.le_refl _) (fun _ _ _=>rfl) (fun _ h=>h) (fun _ h=>h) (fun b hb=>⟨C.m.fin b hb,.inl hb⟩)
  (fun j' bd0 hj hu hb'=>by
   rcases hj with rfl|rfl
   ·simp only[zaq,if_neg (Ne.symm hne),if_true,Option.some.injEq]at hb'
    subst hb'
    exact⟨bd.bs,hb⟩
   ·simp[zaq]at hb')
  (fun j' bd0 hj hb'=>by
   rcases hj with rfl|rfl
   ·simp only[zaq,if_neg (Ne.symm hne),if_true,Option.some.injEq]at hb'
    subst hb'
    refine⟨hU,fun b hbb => ?_⟩
    rcases hhas b hbb with h|h
    ·have:=C.m.off _ _ b hb h
     exact⟨this.2.1,this.1,.inr ⟨j',bd,.inl rfl,hb,h⟩⟩
    ·have:=C.m.off _ _ b hbj h
     exact⟨this.2.1,this.1,.inr ⟨j,bj,.inr rfl,hbj,h⟩⟩
   ·simp[zaq]at hb')
  (fun j1 j2 b1 b2 b h1 h2 hb1 hb2 _ _=>by
   have only:∀i bi,(i=id∨i=j)→zaq (zaq β id (some bd')) j none i=some bi→i=id:=by
    intro i bi hi hb
    rcases hi with rfl|rfl
    ·rfl
    ·simp[zaq]at hb
   rw[only j1 b1 h1 hb1,only j2 b2 h2 hb2])
  (fun E j' hj' hd=>by
   rcases hj' with rfl|rfl
   ·refine⟨bd',by simp[zaq,Ne.symm hne],?_⟩
    simp only[zaf,if_true]
    have cin:InnOk w F bd'.bs e2 sz2 zs bj.v:=by
     rcases z4 with ⟨_,m2,m3⟩|⟨g2,cap2,cur2,m1,m2,m3,m4,m5,m6,m7⟩
     ·exact .inl ⟨m3,m2⟩
     ·exact .inr ⟨g2,cap2,cur2,m2,by simp[bd',m1],m3,m4,m5,m6,m7⟩
    refine⟨⟨q1.1,fun b hbb => ?_⟩,q2,by simp[q3],q4,q5,.inr ⟨g,cap,cur,h5,h6,h7,h8,h9,h10,fun h => ?_,?_⟩⟩
    ·rcases List.mem_append.1 hbb with hbb|hbb
     ·have hbb:=hin b hbb
      rcases z4 with ⟨m1,_⟩|⟨g2,cap2,cur2,m1,m2,m3,_⟩
      ·rw[hbb]at m1;simp at m1
      ·rw[hbb]at m1;cases m1;exact⟨cur2,m3⟩
     ·exact q1.2 b hbb
    ·rcases List.mem_append.1 h with h|h
     ·exact(jb g (hin g h)).2 rfl
     ·exact h11 h
    ·have cellc:∀i',i'<xs.length→∃u,w.cell? ⟨g,i'*sz+c,none⟩=some u∧((i'=i∧u=bj.v)∨(¬i=i'∧∃y,ys[i']? = some y∧InnOk w F bd.bs e2 sz2 y u)):=by
      intro i' hi'
      have hxl:xs[i'].length=sz:=q5 _ (List.getElem_mem hi')
      have hyi:i'<ys.length:=by rw[q3];exact hi'
      obtain⟨u,hu,hn⟩:=h12.cells i' _ _ (List.getElem?_eq_getElem hi') (List.getElem?_eq_getElem hyi) c (xs[i'][c]'(by rw[hxl];exact q4)) (by simp)
      refine⟨u,hu,?_⟩
      unfold NCell at hn
      simp only[if_true,zhi]at hn
      by_cases hii:i=i'
      ·rw[if_pos hii]at hn
       exact .inl ⟨hii.symm,hn.2.2 bj hbj⟩
      ·rw[if_neg hii]at hn
       exact .inr ⟨hii,_,List.getElem?_eq_getElem hyi,hn⟩
     have hold:∀b o n q,bj.v = .slice (some ⟨b,o,none⟩) n q→bj.b=some b:=by
      intro b o n q h
      rcases z4 with ⟨_,_,m3⟩|⟨g2,cap2,cur2,m1,m2,_⟩
      ·rw[m3]at h;simp at h
      ·rw[m2]at h
       simp only[Value.slice.injEq,Option.some.injEq,Addr.mk.injEq]at h
       rw[m1,h.1.1]
     refine⟨fun i' x y hx hy j' p hp => ?_,fun i1 i2 b o1 o2 n1 n2 k1 k2 l1 l2 _ _ c1 c2 => ?_,fun i' id' ho=>by simp at ho⟩
     ·have hi':i'<xs.length:=(List.getElem?_eq_some_iff.1 hx).1
      by_cases hjc:j'=c
      ·subst hjc
       obtain⟨u,hu,hn⟩:=cellc i' hi'
       refine⟨u,hu,?_⟩
       unfold NCell
       simp only[if_true,zhi]
       rcases hn with ⟨rfl,rfl⟩|⟨hii,y',hy',hn⟩
       ·rw[List.getElem?_set_self (by rw[q3];exact hi')]at hy
        cases hy
        exact cin
       ·rw[List.getElem?_set_ne hii,hy']at hy
        cases hy
        exact hn.wide (fun b hb=>⟨hb,rfl⟩) fun q hq=>⟨List.mem_append.2 (.inr hq),rfl⟩
      ·have hyi:i'<ys.length:=by rw[q3];exact hi'
       obtain⟨u,hu,hn⟩:=h12.cells i' x _ hx (List.getElem?_eq_getElem hyi) j' p hp
       refine⟨u,hu,?_⟩
       unfold NCell at hn ⊢
       rw[if_neg hjc]at hn ⊢
       exact hn
     ·obtain⟨u1,hu1,hn1⟩:=cellc i1 l1
      obtain⟨u2,hu2,hn2⟩:=cellc i2 l2
      rw[c1]at hu1;cases hu1
      rw[c2]at hu2;cases hu2
      rcases hn1 with ⟨rfl,e1⟩|⟨m1,y1,_,e1⟩<;>rcases hn2 with ⟨rfl,e2'⟩|⟨m2,y2,_,e2'⟩
      ·rfl
      ·exact((jb b (hold b _ _ _ e1.symm)).1 e2'.blk).elim
      ·exact((jb b (hold b _ _ _ e2'.symm)).1 e1.blk).elim
      ·have o1':zhi (some (i,j)) i1=none:=by simp[zhi,m1]
       have o2':zhi (some (i,j)) i2=none:=by simp[zhi,m2]
       exact h12.inj i1 i2 b o1 o2 n1 n2 k1 k2 l1 l2 o1' o2' c1 c2
   ·exact(hd (by simp[zaf,hne])).elim)
 exact⟨F,_,C.ghost (Nat.le_refl _) S1 S2 fun b hb => .inl hb⟩
def unN (c sz2:Nat) (xs:List (List PV)) (ys:List (List (List PV))):List (List PV):=List.zipWith (fun x y=>x.set c (.sl sz2 y)) xs ys
theorem To.frzN {k:Nat} {s:St} (id e sz c e2 sz2:Nat) (xs:List (List PV)) (ys:List (List (List PV))) (hc:zaf s.h id = .nst e sz c e2 sz2 xs ys none) :
 ToK k s ⟨s.t,(id,.row e sz (unN c sz2 xs ys))::s.h,s.n⟩:=by
 intro H F β a w hk C
 obtain⟨bd,hb,q1,q2,q3,q4,q5,q6⟩:=C.m.here' hc (by simp)
 have hU:=C.m.used _ _ hb
 let bd':Bind:=⟨bd.v,bd.b,bd.n,bd.sz,[]⟩
 have hF:∀b,b∈bd.bs→bd.b≠some b:=by
  intro b hbb h
  rcases q6 with ⟨h1,_⟩|⟨g,cap,cur,h5,_,_,_,_,_,h11,_⟩
  ·rw[h]at h1;simp at h1
  ·rw[h]at h5;cases h5;exact h11 hbb
 obtain⟨S1,S2⟩:=C.m.step (w':=w) (h':=zaf ((id,.row e sz (unN c sz2 xs ys))::s.h)) (β':=zaq β id (some bd')) (F':=fun b=>F b∨b∈bd.bs) (U':=(· < s.n)) (fun i=>i=id)
  (fun i hi=>by simp only[zaq,if_neg (Ne.symm hi)]) (fun i hi=>by simp only[zaf,if_neg (Ne.symm hi)]) rfl rfl rfl (Nat.le_refl _) (fun _ _ _=>rfl) (fun _ h=>h) (fun _ h => .inl h)
  (fun b hbb=>by
   rcases hbb with hbb|hbb
   ·exact⟨C.m.fin b hbb,.inl hbb⟩
   ·exact⟨(C.m.off _ _ b hb (.inr hbb)).2.1,.inr (.inr ⟨id,bd,rfl,hb,.inr hbb⟩)⟩)
  (fun i bd0 hi _ hb'=>by
   subst hi
   simp only[zaq,if_true,Option.some.injEq]at hb'
   subst hb'
   exact⟨bd.bs,hb⟩)
  (fun i bd0 hi hb'=>by
   subst hi
   simp only[zaq,if_true,Option.some.injEq]at hb'
   subst hb'
   refine⟨hU,fun b hbb => ?_⟩
   have hbb:=Bind.has_nil hbb
   have:=C.m.off _ _ b hb (.inl hbb)
   exact⟨this.2.1,fun h=>h.elim this.1 fun h=>hF b h hbb,.inr ⟨i,bd,rfl,hb,.inl hbb⟩⟩)
  (fun i j _ _ _ hi hj _ _ _ _=>by rw[hi,hj])
  (fun E i hi _=>by
   subst hi
   refine⟨bd',by simp[zaq],?_⟩
   simp only[zaf,if_true]
   have hl:(unN c sz2 xs ys).length=xs.length:=by simp[unN,q3]
   refine⟨⟨q1.1,rfl⟩,by rw[hl];exact q2,fun cs hcs => ?_,?_⟩
   ·obtain⟨q,hq⟩:=List.getElem?_of_mem hcs
    unfold unN at hq
    rw[List.getElem?_zipWith]at hq
    cases h1:xs[q]? with
    | none=>rw[h1]at hq;simp at hq
    | some x=>cases h2:ys[q]? with
     | none=>rw[h1,h2]at hq;simp at hq
     | some y =>
      rw[h1,h2]at hq
      simp only[Option.some.injEq]at hq
      subst hq
      rw[List.length_set];exact q5 x (List.mem_of_getElem? h1)
   ·rcases q6 with ⟨h1,h2,h3,_⟩|⟨g,cap,cur,h5,h6,h7,h8,h9,h10,h11,h12⟩
    ·refine .inl ⟨h1,?_,h3⟩
     exact List.eq_nil_of_length_eq_zero (by rw[hl,h2];rfl)
    ·refine .inr ⟨g,cap,cur,h5,by rw[hl];exact h6,h7,by rw[hl];exact h8,h9,h10,RelE.of fun q cs hq => ?_⟩
     unfold unN at hq
     rw[List.getElem?_zipWith]at hq
     cases h1:xs[q]? with
     | none=>rw[h1]at hq;simp at hq
     | some x=>cases h2:ys[q]? with
      | none=>rw[h1,h2]at hq;simp at hq
      | some y =>
       rw[h1,h2]at hq
       simp only[Option.some.injEq]at hq
       subst hq
       have hxl:=q5 x (List.mem_of_getElem? h1)
       refine⟨by rw[List.length_set];exact hxl,RelC.of fun j p hp => ?_⟩
       have hjl:j<x.length:=by have:=(List.getElem?_eq_some_iff.1 hp).1;simpa using this
       obtain⟨u,hu,hn⟩:=h12.cells q x y h1 h2 j x[j] (List.getElem?_eq_getElem hjl)
       refine⟨u,by simpa using hu,?_⟩
       unfold NCell at hn
       by_cases hj:j=c
       ·subst hj
        rw[List.getElem?_set_self hjl]at hp
        cases hp
        simp only[if_true,zhi]at hn
        simp only[RelP]
        rcases hn with ⟨rfl,rfl⟩|⟨g2,cap2,cur2,rfl,k2,k3,k4,k5,k6,k7⟩
        ·exact⟨none,0,rfl,Nat.le_refl _,Nat.zero_le _,.inl rfl⟩
        ·exact⟨_,cap2,rfl,k4,k5,.inr ⟨g2,0,rfl,.inr k2,RelE.mono E.f rfl _ _ _ k7⟩⟩
       ·rw[List.getElem?_set_ne (fun h=>hj h.symm),List.getElem?_eq_getElem hjl]at hp
        cases hp
        rw[if_neg hj]at hn
        exact RelP.mono E.f _ _ hn)
 exact⟨_,_,C.ghost (Nat.le_refl _) S1 S2 fun b hbb=>hbb.imp (fun h=>h) fun h=>⟨id,bd,hb,.inr h⟩⟩
theorem MemOk.wkc {W:World} {N U F:Nat→Prop} {β : Nat→Option Bind} {h h':Nat→Chunk} {w:World} (M:MemOk W N U F β h w) (hw:∀id,WkC (h id) (h' id)):MemOk W N U F β h' w:=by
 refine⟨M.size,M.os,M.tape,M.output,M.frame,M.fin,M.used,fun id hd => ?_,M.dis,M.off⟩
 have hn:h id ≠ .dead:=by
  intro e
  have:=hw id
  rw[e]at this
  cases hc:h' id<;>rw[hc]at this<;>first|exact hd hc|exact this
 obtain⟨bd,hb,hk⟩:=M.ch id hn
 exact⟨bd,hb,(hw id).run hk⟩
theorem Spec.keep {P:Program} {f:FuncId} {args:List AV} {r:AV} {e sz:Nat} {xs:List (List PV)} (S:Spec P f args [] r [.row e sz xs]):Spec P f args [] r [.keep e sz xs]:=by
 refine⟨S.1,S.2.1,fun w F β vs M hv=>(S.2.2 w F β vs M hv).mono ?_⟩
 rintro en w' ⟨v,F',β',h1,h2,h3⟩
 refine⟨v,F',β',h1,h2.wkc fun id => ?_,h3⟩
 cases id with
 | zero=>exact⟨rfl,rfl,rfl⟩
 | succ n=>exact trivial
def gaF:Nat→ByteArray→List Int→List Int × Int
 | 0,s,out=>if s=⟨#[]⟩then (out,0)else ([],4)
 | n+1,s,out=>if (zgs s).2.2=0 then gaF n (zgs s).2.1 (out ++ [z4r (zgs s).1])else ([],(zgs s).2.2)
def gaR (s:ByteArray):List Int × Int :=
 if (zgs s).2.2=0 then (if (zgs s).1≤1000 then gaF (zgs s).1 (zgs s).2.1 []else ([],2))else ([],(zgs s).2.2)
theorem z24 (s:ByteArray):(zgs s).1<18446744073709551616∧(zgs s).2.1.size≤s.size∧0≤(zgs s).2.2∧(zgs s).2.2≤4:=by
 obtain⟨e,r,hE,h1,h2⟩:=zwy s
 rw[hE.res]
 have hle:=hE.le
 by_cases he:e<s.size
 ·rw[h1 he]
  split
  ·refine⟨Nat.mod_lt _ (by decide),?_,by simp,by simp⟩
   simp only[ByteArray.size_extract];omega
  ·exact⟨by decide,Nat.zero_le _,by simp,by simp⟩
 ·rw[h2 (by omega)]
  refine⟨by simp,Nat.zero_le _,?_,?_⟩<;>(simp only;split<;>omega)
theorem zpy (s:ByteArray):(s=⟨#[]⟩)↔s.toList = []:=by
 rw[ByteArray.toList_eq]
 constructor
 ·rintro rfl;rfl
 ·intro h;obtain⟨⟨l⟩⟩:=s;simp at h;subst h;rfl
set_option maxHeartbeats 2000000 in
set_option maxRecDepth 20000 in
theorem zyu (s:ByteArray) (w:World) (hs:s.size≤140737488351232) :
 Calls Tryz.prog 36 #[.string s] w fun e w'=>(∃v,e = .returned (.tuple #[v,.int .i64 (gaR s).2])∧∃n,w'.ownsRow w.heap.size 3 1 v n ((gaR s).1.flatMap z7g))∧Below w.heap.size w w':=by
 have P:=PLift.up (z22 s w hs)
 have hgl:=z24 s
 obtain⟨r,hr⟩:∃r,r=gaR s:=⟨_,rfl⟩
 rw[←hr]
 unfold gaR at hr
 obtain⟨R,hR⟩:∃R,R=zgs s:=⟨_,rfl⟩
 rw[←hR]at P hgl hr
 obtain⟨n,s1,e1⟩:=R
 simp only at P hgl hr
 clear hR
 by_cases h0:e1=0
 ·subst h0
  rw[if_pos rfl]at hr
  by_cases hn:n≤1000
  ·rw[if_pos hn]at hr
   have HR:=PLift.up hr
   clear hr
   go_enter Tryz.func36,Tryz.ntmps36
   go_wp2_with fail
   refine P.down.mono ?_
   rintro e w1 ⟨rfl,hb1⟩
   have B1:=PLift.up hb1
   clear hb1 P
   go_wp2_with fail
   go_loopw [0,6,24] (fun sv v iv wr=>∃(k:Nat) (t:ByteArray) (out:List Int),k≤n∧iv = .int .u64 k∧sv = .string t∧t.size≤140737488351232∧Hid (gaF (n-k) t out=gaF n s1 []∧wr.ownsRow w.heap.size 3 1 v k (out.flatMap z7g)∧Below w.heap.size w wr)) (fun _ _ iv _=>n-(intOf iv).toNat)
   case atStart=>exact⟨0,s1,[],by omega,rfl,rfl,by omega,rfl,⟨by simp,.inl ⟨rfl,rfl⟩⟩,B1.down⟩
   case round =>
    obtain⟨k,t,out,hk,rfl,rfl,ht,hI⟩:=hrel
    have hB:=hI.out.2.2.size
    by_cases hlt:k<n
    ·have Q:=PLift.up (z22 t wr ht)
     have hql:=z24 t
     have hst:gaF (n-k) t out=if (zgs t).2.2=0 then gaF (n-(k+1)) (zgs t).2.1 (out ++ [z4r (zgs t).1])else ([],(zgs t).2.2):=by
      rw[show n-k=(n-(k+1))+1 from by omega];rfl
     obtain⟨R2,hR2⟩:∃R,R=zgs t:=⟨_,rfl⟩
     rw[←hR2]at Q hql hst
     obtain⟨x,t',e2⟩:=R2
     simp only at Q hql hst
     clear hR2
     have HI:=PLift.up hI.out
     clear hI
     by_cases h2:e2=0
     ·subst h2
      rw[if_pos rfl]at hst
      have HST:=PLift.up hst
      clear hst
      go_wp2_with fail
      refine Q.down.mono ?_
      rintro e w2 ⟨rfl,hb2⟩
      have HO2:=PLift.up (z1b HI.down.2.1 hb2)
      have B2:=PLift.up (HI.down.2.2.trans (hb2.mono hB))
      have hB2:=B2.down.size
      clear hb2 Q
      go_wp2_with fail
      refine(zxm x hql.1 _).mono ?_
      rintro e w2 ⟨rfl,rfl⟩
      generalize hu:z4r x=u
      have HU:=PLift.up hu
      clear hu
      go_wp2_with (at_builtin;refine z9p _ rfl _ _ _ rfl w.heap.size _ _ _ yc6 _ k (out.flatMap z7g) rfl (HO2.down.alloc _) (some ⟨w2.heap.size,0,none⟩) 1 1 [.int .i64 u] rfl ?_ ?_ ?_ ?_ ?_ ?_ ?_ ?_)
      ·rfl
      ·simp
      ·intro ad had j y hy
       obtain rfl:=Option.some.inj had
       match j,hy with
       | 0,hy=>simp at hy;subst hy;simp[Addr.add_lit,go_sem]
       | j+1,hy=>simp at hy
      ·simp[Value.oneCell']
      ·simp only[maxLen];omega
      ·omega
      ·simp;omega
      ·intro v' w3 hown hg _
       have hbb:Below w.heap.size w w3:=(B2.down.alloc (by omega) _).grown hg (by simp;omega) (fun q hq=>(HO2.down.lt q hq).1)
       obtain⟨a',c',rfl⟩:=z1a hown
       have HO:=PLift.up hown
       have HBB:=PLift.up hbb
       clear hown hbb hg
       go_wp2_with fail
       go_roundw
       case rel =>
        refine⟨k+1,t',out ++ [z4r x],by omega,by go_num,rfl,by omega,?_,?_,HBB.down⟩
        ·rw[←HST.down];exact HI.down.1
        ·rw[List.flatMap_append,HU.down];exact HO.down
       case measure=>simp[intOf];omega
     ·rw[if_neg h2]at hst
      have hr2:=(hst.symm.trans HI.down.1).trans HR.down.symm
      have z1:(e2 != 0)=true:=by simpa using h2
      have z2:(e2 == 0)=false:=by simpa using h2
      subst hr2
      have B1W:=PLift.up HI.down.2.2
      clear hst HR HI h2
      go_wp2_with fail
      refine Q.down.mono ?_
      rintro e w2 ⟨rfl,hb2⟩
      have HI2:=PLift.up (B1W.down.trans (hb2.mono hB))
      clear hb2 Q
      go_wp2_with fail
      go_returns
      exact⟨⟨_,rfl,0,⟨by simp,.inl ⟨rfl,rfl⟩⟩⟩,HI2.down⟩
    ·obtain rfl:k=n:=by omega
     have hz:=hI.out.1
     rw[Nat.sub_self]at hz
     have hz2:gaF 0 t out=if t=⟨#[]⟩then (out,0)else ([],4):=rfl
     rw[hz2]at hz
     have HI:=PLift.up hI.out
     clear hI hz2
     by_cases ht0:t=⟨#[]⟩
     ·rw[if_pos ht0]at hz
      have hr2:=hz.trans HR.down.symm
      subst hr2 ht0
      clear HR
      go_wp2_with fail
      go_returns
      exact⟨⟨_,rfl,_,HI.down.2.1⟩,HI.down.2.2⟩
     ·rw[if_neg ht0]at hz
      have hr2:=hz.trans HR.down.symm
      subst hr2
      clear HR
      have hte:t.toList.isEmpty=false:=by
       cases h:t.toList with
       | nil=>exact absurd ((zpy t).2 h) ht0
       | cons x l=>rfl
      have hte2:¬t.toList = []:=fun h=>ht0 ((zpy t).2 h)
      clear ht0
      go_wp2_with fail
      go_returns
      exact⟨⟨_,rfl,0,⟨by simp,.inl ⟨rfl,rfl⟩⟩⟩,HI.down.2.2⟩
  ·rw[if_neg hn]at hr
   subst hr
   go_enter Tryz.func36,Tryz.ntmps36
   go_wp2_with fail
   refine P.down.mono ?_
   rintro e w1 ⟨rfl,hb1⟩
   have B1:=PLift.up hb1
   clear hb1 P
   go_wp2_with fail
   go_returns
   exact⟨⟨_,rfl,0,⟨by simp,.inl ⟨rfl,rfl⟩⟩⟩,B1.down⟩
 ·rw[if_neg h0]at hr
  have z1:(e1 != 0)=true:=by simpa using h0
  have z2:(e1 == 0)=false:=by simpa using h0
  subst hr
  clear h0
  go_enter Tryz.func36,Tryz.ntmps36
  go_wp2_with fail
  refine P.down.mono ?_
  rintro e w1 ⟨rfl,hb1⟩
  have B1:=PLift.up hb1
  clear hb1 P
  go_wp2_with fail
  go_returns
  exact⟨⟨_,rfl,0,⟨by simp,.inl ⟨rfl,rfl⟩⟩⟩,B1.down⟩
end Go.Proofs.YtmjbgbmegbkmhaaGreat
namespace Go.Proofs.YtmjbgbmegbkmhaaGreat
set_option linter.all false
def z0w (a:Int) (m:Nat):List Int:=(List.range m).map fun (j:Nat)=>a+(j:Int)
theorem zqf (a:Int) (m:Nat):z0w a (m+1)=a::z0w (a+1) m:=by
 unfold z0w
 rw[List.range_succ_eq_map,List.map_cons,List.map_map]
 simp only[Int.natCast_zero,Int.add_zero,List.cons.injEq,true_and]
 apply List.map_congr_left
 intro j _
 simp only[Function.comp]
 omega
theorem zu7 {a k:Int} {m:Nat} (h:k∈z0w a m):a≤k∧k<a+m:=by
 unfold z0w at h
 obtain⟨j,hj,rfl⟩:=List.mem_map.1 h
 have:=List.mem_range.1 hj
 omega
theorem zf7:∀(m:Nat) (a:Int) (s:List Int) (p:Int→Bool),s.Pairwise (· < ·)→(∀x∈s,a≤x∧x<a+m)→(∀k,a≤k→k<a+m→(p k=true↔k∈s))→(z0w a m).filter p=s
 | 0,a,s,p,_,hb,_=>by
  cases s with
  | nil=>rfl
  | cons x r=>have:=hb x (by simp);omega
 | m+1,a,s,p,hs,hb,hp=>by
  rw[zqf,List.filter_cons]
  cases s with
  | nil =>
   have h0:p a=false:=by
    cases h:p a with
    | false=>rfl
    | true=>have:=(hp a (by omega) (by omega)).1 h;simp at this
   rw[h0]
   exact zf7 m (a+1) [] p .nil (by simp) fun k h1 h2=>by have:=hp k (by omega) (by omega);simpa using this
  | cons x r =>
   obtain⟨hx,hr⟩:=List.pairwise_cons.1 hs
   have hbx:=hb x (by simp)
   by_cases hxa:x=a
   ·subst hxa
    rw[if_pos ((hp x (by omega) (by omega)).2 (by simp))]
    congr 1
    refine zf7 m (x+1) r p hr (fun y hy => ?_) fun k h1 h2 => ?_
    ·have:=hx y hy;have:=hb y (by simp[hy]);omega
    ·have:=hp k (by omega) (by omega)
     rw[this]
     simp only[List.mem_cons]
     constructor
     ·rintro (h|h)
      ·omega
      ·exact h
     ·exact .inr
   ·have h0:p a=false:=by
     cases h:p a with
     | false=>rfl
     | true =>
      have:=(hp a (by omega) (by omega)).1 h
      rcases List.mem_cons.1 this with h|h
      ·exact(hxa h.symm).elim
      ·have:=hx a h;omega
    rw[h0]
    refine zf7 m (a+1) (x::r) p hs (fun y hy => ?_) fun k h1 h2=>hp k (by omega) (by omega)
    have h3:=hb y hy
    rcases List.mem_cons.1 hy with rfl|hy
    ·omega
    ·have:=hx y hy;omega
def zi0 (g:Int):List Int→Int × List Int
 | []=>(g,[])
 | h::r=>if h=g then zi0 (g+1) r else (g,h::r)
theorem zu5:∀(s:List Int) (g:Int),s.Pairwise (· < ·)→(∀x∈s,g≤x) →
 g≤(zi0 g s).1∧(zi0 g s).2.Pairwise (· < ·)∧(∀x∈(zi0 g s).2,(zi0 g s).1<x∧x∈s)∧(∀k,g≤k→k<(zi0 g s).1→k∈s)∧(∀k∈s,(zi0 g s).1≤k→k∈(zi0 g s).2)∧(zi0 g s).1∉s
 | [],g,_,_=>by simp[zi0]
 | h::r,g,hs,hb=>by
  obtain⟨h1,h2⟩:=List.pairwise_cons.1 hs
  unfold zi0
  by_cases hg:h=g
  ·subst hg
   rw[if_pos rfl]
   obtain⟨a1,a2,a3,a4,a5,a6⟩:=zu5 r (h+1) h2 (fun x hx=>by have:=h1 x hx;omega)
   refine⟨by omega,a2,fun x hx=>⟨(a3 x hx).1,by simp[(a3 x hx).2]⟩,fun k k1 k2 => ?_,fun k hk k1 => ?_,?_⟩
   ·by_cases hk:k=h
    ·simp[hk]
    ·simp[a4 k (by omega) k2]
   ·rcases List.mem_cons.1 hk with rfl|hk
    ·omega
    ·exact a5 k hk k1
   ·simp only[List.mem_cons,not_or]
    exact⟨by omega,a6⟩
  ·rw[if_neg hg]
   have hgh:g<h:=by have:=hb h (by simp);omega
   refine⟨by simp,hs,fun x hx=>⟨?_,hx⟩,fun k k1 k2=>by simp at k2;omega,fun k hk _=>hk,?_⟩
   ·rcases List.mem_cons.1 hx with rfl|hx
    ·exact hgh
    ·have:=h1 x hx;simp;omega
   ·simp only[List.mem_cons,not_or]
    exact⟨by omega,fun hm=>by have:=h1 g hm;omega⟩
def zx9 (n:Int) (s:List Int):List Int:=s.take (s.countP (· < n))++n::s.drop (s.countP (· < n))
theorem zw3:∀(s:List Int) (n:Int),s.Pairwise (· < ·)→(∀x∈s.take (s.countP (· < n)),x<n)∧(∀x∈s.drop (s.countP (· < n)),n≤x)
 | [],_,_=>by simp
 | h::r,n,hs=>by
  obtain⟨h1,h2⟩:=List.pairwise_cons.1 hs
  obtain⟨i1,i2⟩:=zw3 r n h2
  by_cases hn:h<n
  ·rw[List.countP_cons_of_pos (by simpa using hn)]
   refine⟨fun x hx => ?_,fun x hx=>i2 x (by simpa using hx)⟩
   rw[List.take_succ_cons]at hx
   rcases List.mem_cons.1 hx with rfl|hx
   ·exact hn
   ·exact i1 x hx
  ·have h0:r.countP (· < n)=0:=by
    rw[List.countP_eq_zero]
    intro x hx
    have:=h1 x hx
    simp;omega
   rw[List.countP_cons_of_neg (by simpa using hn),h0]
   refine⟨by simp,fun x hx => ?_⟩
   rw[List.drop_zero]at hx
   rcases List.mem_cons.1 hx with rfl|hx
   ·omega
   ·have:=h1 x hx;omega
theorem zqn (n:Int) (s:List Int) (x:Int):x∈zx9 n s↔x=n∨x∈s:=by
 unfold zx9
 rw[List.mem_append,List.mem_cons]
 have:x∈s↔x∈s.take (s.countP (· < n))∨x∈s.drop (s.countP (· < n)):=by rw[←List.mem_append,List.take_append_drop]
 rw[this]
 constructor
 ·rintro (h|h|h)
  ·exact .inr (.inl h)
  ·exact .inl h
  ·exact .inr (.inr h)
 ·rintro (h|h|h)
  ·exact .inr (.inl h)
  ·exact .inl h
  ·exact .inr (.inr h)
theorem z5r (n:Int) (s:List Int) (hs:s.Pairwise (· < ·)) (hn:n∉s):(zx9 n s).Pairwise (· < ·):=by
 obtain⟨h1,h2⟩:=zw3 s n hs
 unfold zx9
 refine List.pairwise_append.2 ⟨hs.take,List.pairwise_cons.2 ⟨fun x hx => ?_,hs.drop⟩,fun x hx y hy => ?_⟩
 ·have:=h2 x hx
  have:x≠n:=fun e=>hn (e▸List.mem_of_mem_drop hx)
  omega
 ·have h3:=h1 x hx
  rcases List.mem_cons.1 hy with rfl|hy
  ·exact h3
  ·have:=h2 y hy;omega
def zha (got:Int) (held:List Int) (n:Int):Int × List Int :=
 if n=got then zi0 (got+1) held else if got<n∧n∉held then (got,zx9 n held)else (got,held)
def zh2 (got:Int) (held:List Int) (n k:Int):Bool:=decide (k<got)||decide (k=n)||decide (k∈held)
theorem z7s (got next:Int) (held:List Int) (n:Int) (hg:got≤next) (hs:held.Pairwise (· < ·)) (hb:∀x∈held,got+1≤x∧x<next) (hn:0≤n∧n<next) :
 got≤(zha got held n).1∧(zha got held n).1≤next∧(∀k,k<(zha got held n).1→zh2 got held n k=true)∧zh2 got held n (zha got held n).1=false∧(z0w (zha got held n).1 (next-(zha got held n).1).toNat).filter (zh2 got held n)=(zha got held n).2:=by
 have th:∀k,zh2 got held n k=true↔(k<got∨k=n∨k∈held):=by intro k;simp[zh2,or_assoc]
 have thf:∀k,zh2 got held n k=false↔¬(k<got∨k=n∨k∈held):=by intro k;rw[←th];simp
 unfold zha
 by_cases h1:n=got
 ·subst h1
  rw[if_pos rfl]
  obtain⟨a1,a2,a3,a4,a5,a6⟩:=zu5 held (n+1) hs (fun x hx=>(hb x hx).1)
  generalize zi0 (n+1) held=r at *
  have hle:r.1≤next:=by
   by_cases h:r.1=n+1
   ·omega
   ·have:=(hb _ (a4 (r.1-1) (by omega) (by omega))).2;omega
  refine⟨by omega,hle,fun k hk=>(th k).2 ?_,(thf _).2 ?_,?_⟩
  ·by_cases h:k<n
   ·exact .inl h
   ·by_cases h':k=n
    ·exact .inr (.inl h')
    ·exact .inr (.inr (a4 k (by omega) hk))
  ·rintro (h|h|h)
   ·omega
   ·omega
   ·exact a6 h
  ·refine zf7 _ _ _ _ a2 (fun x hx => ?_) fun k k1 k2 => ?_
   ·have h2:=a3 x hx;have:=hb x h2.2;omega
   ·rw[th]
    constructor
    ·rintro (h|h|h)
     ·omega
     ·omega
     ·exact a5 k h k1
    ·intro h;exact .inr (.inr (a3 k h).2)
 ·rw[if_neg h1]
  have hgot:∀h2:List Int,h2.Pairwise (· < ·)→(∀k,got≤k→(k∈h2↔(k=n∧got≤n)∨k∈held))→(∀x∈h2,got≤x∧x<next)→(∀k,k<got→zh2 got held n k=true)∧zh2 got held n got=false∧(z0w got (next-got).toNat).filter (zh2 got held n)=h2:=by
   intro h2 p1 p2 p3
   refine⟨fun k hk=>(th k).2 (.inl hk),(thf _).2 ?_,zf7 _ _ _ _ p1 (fun x hx => ?_) fun k k1 k2 => ?_⟩
   ·rintro (h|h|h)
    ·omega
    ·exact h1 h.symm
    ·have:=hb got h;omega
   ·have:=p3 x hx;omega
   ·rw[th,p2 k k1]
    constructor
    ·rintro (h|h|h)
     ·omega
     ·exact .inl ⟨h,by omega⟩
     ·exact .inr h
    ·rintro (h|h)
     ·exact .inr (.inl h.1)
     ·exact .inr (.inr h)
  by_cases h2:got<n∧n∉held
  ·rw[if_pos h2]
   obtain⟨a1,a2,a3⟩:=hgot (zx9 n held) (z5r n held hs h2.2) (fun k hk=>by rw[zqn];constructor<;>(rintro (h|h)<;>first|exact .inl ⟨h,by omega⟩|exact .inl h.1|exact .inr h)) (fun x hx=>by
    rcases (zqn n held x).1 hx with rfl|hx
    ·omega
    ·have:=hb x hx;omega)
   exact⟨Int.le_refl _,by omega,a1,a2,a3⟩
  ·rw[if_neg h2]
   have hd:n<got∨n∈held:=by
    by_cases h:n∈held
    ·exact .inr h
    ·left
     have:¬got<n:=fun h'=>h2 ⟨h',h⟩
     omega
   obtain⟨a1,a2,a3⟩:=hgot held hs (fun k hk=>by
    constructor
    ·exact .inr
    ·rintro (⟨rfl,h⟩|h)
     ·rcases hd with hd|hd
      ·omega
      ·exact hd
     ·exact h) (fun x hx=>by have:=hb x hx;omega)
   exact⟨Int.le_refl _,by omega,a1,a2,a3⟩
end Go.Proofs.YtmjbgbmegbkmhaaGreat
namespace Go.Proofs.YtmjbgbmegbkmhaaGreat
set_option linter.all false
open Go.RowKit
structure Lnk where
 window:Int
 sent:List ByteArray
 base:Int
 next:Int
 way:List Int
 acks:List Int
 got:List ByteArray
 held:List Int
deriving Inhabited
structure Evt where
 kind:Int
 at_:Int
 keep:Bool
 text:ByteArray
deriving Inhabited
structure LnkR (l : Lnk) : Prop where
 w:1≤l.window∧l.window≤16
 s:l.sent.length≤200
 y:l.way.length≤1000
 a:l.acks.length≤1000
 g:l.got.length≤l.sent.length
 p:l.got=l.sent.take l.got.length
 b:0≤l.base∧l.base≤l.got.length
 h:l.held.length≤l.sent.length
 n:(l.got.length:Int)+l.held.length≤l.next∧l.next≤l.base+l.window∧l.next≤l.sent.length
 wy:∀n∈l.way,0≤n∧n<l.next
 ak:∀n∈l.acks,0≤n∧n≤l.got.length
 hd:∀n∈l.held,(l.got.length:Int)+1≤n∧n<l.next
 up:l.held.Pairwise (· < ·)
theorem z0v:∀(m:Nat) (a:Int),(z0w a m).Pairwise (· < ·)
 | 0,_ => .nil
 | m+1,a=>by
  rw[zqf]
  exact List.pairwise_cons.2 ⟨fun x hx=>by have:=zu7 hx;omega,z0v m (a+1)⟩
theorem z5m (a:Int) (m:Nat):(z0w a m).length=m:=by simp[z0w]
structure ComesOk (l : Lnk) (r : Int × List Int) : Prop where
 g:(l.got.length:Int)≤r.1∧r.1≤l.next
 n:r.1+r.2.length≤l.next
 h:∀x∈r.2,r.1+1≤x∧x<l.next
 up:r.2.Pairwise (· < ·)
theorem LnkR.comes {l:Lnk} (R:LnkR l) {n:Int} (hn:0≤n∧n<l.next):ComesOk l (zha l.got.length l.held n):=by
 have hgn:(l.got.length:Int)≤l.next:=by have:=R.n;omega
 obtain⟨c1,c2,c3,c4,c5⟩:=z7s l.got.length l.next l.held n hgn R.up R.hd hn
 generalize zha l.got.length l.held n=r at *
 have hm:∀x∈r.2,r.1+1≤x∧x<l.next:=by
  intro x hx
  rw[←c5]at hx
  obtain⟨h1,h2⟩:=List.mem_filter.1 hx
  have h3:=zu7 h1
  have:x≠r.1:=fun e=>by rw[e,c4]at h2;simp at h2
  omega
 have hup:r.2.Pairwise (· < ·):=by rw[←c5];exact(z0v _ _).filter _
 refine⟨⟨c1,c2⟩,?_,hm,hup⟩
 have:r.2.length≤(l.next-r.1).toNat:=by
  rw[←c5]
  exact Nat.le_trans (List.length_filter_le _ _) (by rw[z5m];exact Nat.le_refl _)
 omega
structure Vw where
 p:Int
 b:Int
 v:Int
 deriving DecidableEq, Inhabited
structure Stp where
 kind:Int
 who:Int
 ballot:Int
 value:Int
 deriving DecidableEq, Inhabited
structure Rn where
 prom:Nat
 heard:List Vw
 asked:Bool
 value:Int
 acc:Nat
instance:Inhabited Rn:=⟨⟨0,[],false,0,0⟩⟩
structure Cn where
 vows:List Vw
 all:Nat→Rn
 told:Nat→Bool
def zd5:List Vw→Vw→Vw
 | [],m=>m
 | v::r,m=>zd5 r (if m.b<v.b then v else m)
def zez (l:List Vw) (x:Int):Int:=match l with
 | []=>x
 | a::r=>if (zd5 (a::r) a).b=0 then x else (zd5 (a::r) a).v
def zlf (f:Nat→Rn) (b:Nat) (r:Rn):Nat→Rn:=fun k=>if k=b then r else f k
theorem zec (f:Nat→Rn) (b:Nat) (r:Rn):zlf f b r b=r:=if_pos rfl
theorem zc6 (f:Nat→Rn) {b k:Nat} (r:Rn) (h:k≠b):zlf f b r k=f k:=if_neg h
def zce (c:Cn) (i:Nat):Vw:=c.vows.getD i default
def zet (c:Cn) (x:Stp):Cn :=
 let b:=x.ballot.toNat;let i:=x.who.toNat;let r:=c.all b;let v:=zce c i
 let t:=fun k=>c.told k||decide (k=b)
 if x.kind=1∧v.p<x.ballot then ⟨c.vows.set i ⟨x.ballot,v.b,v.v⟩,zlf c.all b { r with prom:=r.prom ||| 2 ^ i,heard:=r.heard ++ [v] },t⟩
 else if x.kind=2∧r.asked=false∧c.vows.length<2*pcK r.prom 32 then ⟨c.vows,zlf c.all b { r with asked:=true,value:=zez r.heard x.value },t⟩
 else if x.kind=3∧r.asked=true∧v.p≤x.ballot then ⟨c.vows.set i ⟨x.ballot,x.ballot,r.value⟩,zlf c.all b { r with acc:=r.acc ||| 2 ^ i },t⟩
 else ⟨c.vows,c.all,t⟩
def zc3 (n:Nat):Cn:=⟨List.replicate n default,fun _=>default,fun _=>false⟩
def zc0 (c:Cn) (l:List Stp):Cn:=l.foldl zet c
theorem zsr (c:Cn) (l:List Stp) (x:Stp):zc0 c (l ++ [x])=zet (zc0 c l) x:=by unfold zc0;rw[List.foldl_append];rfl
def zk2 (n:Nat) (x:Stp):Prop:=(1≤x.kind∧x.kind≤3)∧(0≤x.who∧x.who<n)∧1≤x.ballot∧x.ballot≤50
theorem zxb:∀(l:List Vw) (m:Vw),zd5 l m∈m::l
 | [],m=>by simp[zd5]
 | v::r,m=>by
  rw[zd5]
  have h:=zxb r (if m.b<v.b then v else m)
  rcases List.mem_cons.1 h with e|e
  ·rw[e];split<;>simp
  ·simp[e]
theorem z31:∀(l:List Vw) (m:Vw),m.b≤(zd5 l m).b∧∀v∈l,v.b≤(zd5 l m).b
 | [],m=>⟨Int.le_refl _,fun v h=>by simp at h⟩
 | v::r,m=>by
  rw[zd5]
  obtain⟨h1,h2⟩:=z31 r (if m.b<v.b then v else m)
  have h3:m.b≤(if m.b<v.b then v else m).b∧v.b≤(if m.b<v.b then v else m).b:=by split<;>omega
  refine⟨by omega,fun u hu => ?_⟩
  rcases List.mem_cons.1 hu with e|e
  ·subst e;omega
  ·exact h2 u e
theorem z9j {n k j:Nat} : zbj (n ||| 2 ^ k) j=(zbj n j||decide (k=j)):=by
 rw[zep,zep,Nat.testBit_or,Nat.testBit_two_pow]
theorem zmf (j:Nat):zbj 0 j=false:=by unfold zbj;simp
theorem z06 (n A B:Nat) (hA:∀j,zbj A j=true→j<n) (hB:∀j,zbj B j=true→j<n) (h:∀j,¬(zbj A j=true∧zbj B j=true)):∀k,pcK A k+pcK B k≤k∧pcK A k+pcK B k≤n
 | 0=>by simp[pcK]
 | k+1=>by
  obtain⟨h1,h2⟩:=z06 n A B hA hB h k
  have a:=hA k
  have b:=hB k
  have c:=h k
  unfold zbj at a b c
  simp only[beq_iff_eq]at a b c
  have a2:A/2 ^ k % 2<2:=Nat.mod_lt _ (by decide)
  have b2:B/2 ^ k % 2<2:=Nat.mod_lt _ (by decide)
  simp only[pcK]
  generalize A/2 ^ k % 2=x at *
  generalize B/2 ^ k % 2=y at *
  generalize pcK A k=u at *
  generalize pcK B k=v at *
  by_cases hk:k<n
  ·have:¬(x=1∧y=1):=c
   refine⟨by omega,?_⟩
   omega
  ·have:x≠1:=fun e=>hk (a e)
   have:y≠1:=fun e=>hk (b e)
   omega
theorem yme {n A B:Nat} (hA:∀j,zbj A j=true→j<n) (hB:∀j,zbj B j=true→j<n) (mA:n<2*pcK A 32) (mB:n<2*pcK B 32):∃j,zbj A j=true∧zbj B j=true:=by
 refine Classical.byContradiction fun hn => ?_
 have:=(z06 n A B hA hB (fun j hj=>hn ⟨j,hj⟩) 32).2
 omega
structure Pax (n : Nat) (c : Cn) : Prop where
 len:c.vows.length=n
 vb:∀i,i<n→0≤(zce c i).b∧(zce c i).b≤(zce c i).p
 a0:∀k i,zbj (c.all k).acc i=true→i<n∧1≤k
 a1:∀k i,zbj (c.all k).acc i=true→(c.all k).asked=true∧(k:Int)≤(zce c i).b
 a2:∀i,i<n→(zce c i).b≠0→∃k:Nat,(zce c i).b=k∧(c.all k).asked=true∧(c.all k).value=(zce c i).v
 p0:∀k i,zbj (c.all k).prom i=true→i<n
 p1:∀k i,zbj (c.all k).prom i=true→(k:Int)≤(zce c i).p
 h1:∀k i,zbj (c.all k).prom i=true→∃e∈(c.all k).heard,∀k':Nat,k'<k→zbj (c.all k').acc i=true→(k':Int)≤e.b
 h2:∀k,∀e∈(c.all k).heard,0≤e.b∧e.b<k∧(e.b≠0→∃k':Nat,e.b=k'∧(c.all k').asked=true∧(c.all k').value=e.v)
 s:∀k,(c.all k).asked=true→∃(Q:Nat) (m:Int),n<2*pcK Q 32∧(∀i,zbj Q i=true→i<n∧(k:Int)≤(zce c i).p∧∀k':Nat,k'<k→zbj (c.all k').acc i=true→(k':Int)≤m)∧m<k∧(m≤0∨∃k':Nat,m=k'∧(c.all k').asked=true∧(c.all k').value=(c.all k).value)
theorem z5u (n:Nat):Pax n (zc3 n):=by
 have hv:∀i,zce (zc3 n) i=default:=fun i=>by
  unfold zce zc3
  simp only
  rw[List.getD_eq_getElem?_getD,List.getElem?_replicate]
  split<;>rfl
 have hb:∀i,zbj (default:Rn).acc i=false:=fun i=>zmf i
 have hp:∀i,zbj (default:Rn).prom i=false:=fun i=>zmf i
 have ha:∀k,(zc3 n).all k=default:=fun _=>rfl
 refine⟨by simp[zc3],fun i _=>by rw[hv];decide,fun k i h => ?_,fun k i h => ?_,fun i _ h => ?_,fun k i h => ?_,fun k i h => ?_,fun k i h => ?_,fun k e h => ?_,fun k h => ?_⟩
 ·rw[ha,hb]at h;exact absurd h (by decide)
 ·rw[ha,hb]at h;exact absurd h (by decide)
 ·rw[hv]at h;exact absurd rfl h
 ·rw[ha,hp]at h;exact absurd h (by decide)
 ·rw[ha,hp]at h;exact absurd h (by decide)
 ·rw[ha,hp]at h;exact absurd h (by decide)
 ·rw[ha]at h;exact absurd h List.not_mem_nil
 ·rw[ha]at h;exact absurd h (by decide)
theorem zug {c:Cn} {i:Nat} {v:Vw} {f:Nat→Rn} {t:Nat→Bool} (hi:i<c.vows.length) (j:Nat):zce ⟨c.vows.set i v,f,t⟩ j=if j=i then v else zce c j:=by
 unfold zce
 simp only
 rw[List.getD_eq_getElem?_getD,List.getElem?_set]
 by_cases h:i=j
 ·subst h
  rw[if_pos rfl,if_pos hi,if_pos rfl];rfl
 ·rw[if_neg h,if_neg (fun x=>h x.symm),←List.getD_eq_getElem?_getD]
theorem z5w {n:Nat} {c:Cn} (P:Pax n c) {b i:Nat} {t:Nat→Bool} (hi:i<n) (h:(zce c i).p<(b:Int)):Pax n ⟨c.vows.set i ⟨b,(zce c i).b,(zce c i).v⟩,zlf c.all b { c.all b with prom:=(c.all b).prom ||| 2 ^ i,heard:=(c.all b).heard ++ [zce c i] },t⟩:=by
 have hl:i<c.vows.length:=by rw[P.len];exact hi
 obtain⟨f,hf⟩:∃f,f=zlf c.all b { c.all b with prom:=(c.all b).prom ||| 2 ^ i,heard:=(c.all b).heard ++ [zce c i] }:=⟨_,rfl⟩
 have fb:f b = { c.all b with prom:=(c.all b).prom ||| 2 ^ i,heard:=(c.all b).heard ++ [zce c i] }:=by rw[hf,zec]
 have fo:∀k,k≠b→f k=c.all k:=fun k hk=>by rw[hf,zc6 _ _ hk]
 have facc:∀k,(f k).acc=(c.all k).acc:=fun k=>by
  by_cases hk:k=b
  ·subst hk;rw[fb]
  ·rw[fo k hk]
 have fask:∀k,(f k).asked=(c.all k).asked:=fun k=>by
  by_cases hk:k=b
  ·subst hk;rw[fb]
  ·rw[fo k hk]
 have fval:∀k,(f k).value=(c.all k).value:=fun k=>by
  by_cases hk:k=b
  ·subst hk;rw[fb]
  ·rw[fo k hk]
 rw[←hf]
 have V:=fun j=>zug (c:=c) (i:=i) (v:=⟨b,(zce c i).b,(zce c i).v⟩) (f:=f) (t:=t) hl j
 have Vb:∀j,(zce ⟨c.vows.set i ⟨b,(zce c i).b,(zce c i).v⟩,f,t⟩ j).b=(zce c j).b:=fun j=>by rw[V];split;rename_i e;rw[e];rfl
 have Vv:∀j,(zce ⟨c.vows.set i ⟨b,(zce c i).b,(zce c i).v⟩,f,t⟩ j).v=(zce c j).v:=fun j=>by rw[V];split;rename_i e;rw[e];rfl
 have Vp:∀j,(zce c j).p≤(zce ⟨c.vows.set i ⟨b,(zce c i).b,(zce c i).v⟩,f,t⟩ j).p:=fun j=>by
  rw[V];split
  ·rename_i e;rw[e];show (zce c i).p≤(b:Int);omega
  ·exact Int.le_refl _
 have prom:∀k j,zbj (f k).prom j=true→zbj (c.all k).prom j=true∨(k=b∧j=i):=fun k j hj=>by
  by_cases hk:k=b
  ·subst hk
   rw[fb]at hj
   simp only at hj
   rw[z9j,Bool.or_eq_true,decide_eq_true_iff]at hj
   rcases hj with hj|hj
   ·exact .inl hj
   ·exact .inr ⟨rfl,hj.symm⟩
  ·rw[fo k hk]at hj;exact .inl hj
 have heard:∀k e,e∈(f k).heard→e∈(c.all k).heard∨(k=b∧e=zce c i):=fun k e he=>by
  by_cases hk:k=b
  ·subst hk
   rw[fb]at he
   rcases List.mem_append.1 he with he|he
   ·exact .inl he
   ·exact .inr ⟨rfl,List.mem_singleton.1 he⟩
  ·rw[fo k hk]at he;exact .inl he
 have hle:=P.vb i hi
 refine⟨by simp only[List.length_set];exact P.len,fun j hj => ?_,fun k j h => ?_,fun k j h => ?_,fun j hj h => ?_,fun k j h => ?_,fun k j h => ?_,fun k j h => ?_,fun k e h => ?_,fun k h => ?_⟩
 ·have:=P.vb j hj
  have:=Vp j
  rw[Vb];omega
 ·simp only[facc]at h;exact P.a0 k j h
 ·simp only[facc]at h
  obtain⟨x,y⟩:=P.a1 k j h
  simp only[fask]
  exact⟨x,by rw[Vb];exact y⟩
 ·rw[Vb]at h
  obtain⟨k,x,y,z⟩:=P.a2 j hj h
  refine⟨k,by rw[Vb];exact x,by simp only[fask];exact y,?_⟩
  simp only[fval]
  rw[Vv];exact z
 ·rcases prom k j h with h|⟨-,rfl⟩
  ·exact P.p0 k j h
  ·exact hi
 ·rcases prom k j h with h|⟨rfl,rfl⟩
  ·exact Int.le_trans (P.p1 k j h) (Vp j)
  ·rw[V,if_pos rfl];exact Int.le_refl _
 ·rcases prom k j h with h|⟨rfl,rfl⟩
  ·obtain⟨e,he,hx⟩:=P.h1 k j h
   refine⟨e,?_,fun k' hk' ha=>hx k' hk' (by simpa only[facc]using ha)⟩
   by_cases hk:k=b
   ·subst hk;simp only[fb];exact List.mem_append.2 (.inl he)
   ·simp only[fo k hk];exact he
  ·refine⟨zce c j,by simp only[fb];exact List.mem_append.2 (.inr (by simp)),fun k' hk' ha => ?_⟩
   simp only[facc]at ha
   exact(P.a1 k' j ha).2
 ·rcases heard k e h with h|⟨rfl,rfl⟩
  ·obtain⟨x,y,z⟩:=P.h2 k e h
   refine⟨x,y,fun h0 => ?_⟩
   obtain⟨k',z1,z2,z3⟩:=z h0
   exact⟨k',z1,by simp only[fask];exact z2,by simp only[fval];exact z3⟩
  ·refine⟨hle.1,by omega,fun h0 => ?_⟩
   obtain⟨k',z1,z2,z3⟩:=P.a2 i hi h0
   exact⟨k',z1,by simp only[fask];exact z2,by simp only[fval];exact z3⟩
 ·simp only[fask]at h
  obtain⟨Q,m,q1,q2,q3,q4⟩:=P.s k h
  refine⟨Q,m,q1,fun j hj => ?_,q3,?_⟩
  ·obtain⟨x,y,z⟩:=q2 j hj
   exact⟨x,Int.le_trans y (Vp j),fun k' hk' ha=>z k' hk' (by simpa only[facc]using ha)⟩
  ·rcases q4 with q4|⟨k',z1,z2,z3⟩
   ·exact .inl q4
   ·exact .inr ⟨k',z1,by simp only[fask];exact z2,by simp only[fval];exact z3⟩
theorem ybd {n:Nat} {c:Cn} (P:Pax n c) {b:Nat} {t:Nat→Bool} {x:Int} (ha:(c.all b).asked=false) (hq:n<2*pcK (c.all b).prom 32):Pax n ⟨c.vows,zlf c.all b { c.all b with asked:=true,value:=zez (c.all b).heard x },t⟩:=by
 obtain⟨f,hf⟩:∃f,f=zlf c.all b { c.all b with asked:=true,value:=zez (c.all b).heard x }:=⟨_,rfl⟩
 have fb:f b = { c.all b with asked:=true,value:=zez (c.all b).heard x }:=by rw[hf,zec]
 have fo:∀k,k≠b→f k=c.all k:=fun k hk=>by rw[hf,zc6 _ _ hk]
 rw[←hf]
 have V:∀j,zce ⟨c.vows,f,t⟩ j=zce c j:=fun _=>rfl
 have facc:∀k,(f k).acc=(c.all k).acc:=fun k=>by
  by_cases hk:k=b
  ·subst hk;rw[fb]
  ·rw[fo k hk]
 have fprom:∀k,(f k).prom=(c.all k).prom:=fun k=>by
  by_cases hk:k=b
  ·subst hk;rw[fb]
  ·rw[fo k hk]
 have fheard:∀k,(f k).heard=(c.all k).heard:=fun k=>by
  by_cases hk:k=b
  ·subst hk;rw[fb]
  ·rw[fo k hk]
 have fask:∀k,(c.all k).asked=true→(f k).asked=true∧(f k).value=(c.all k).value:=fun k hk=>by
  have:k≠b:=fun e=>by rw[e,ha]at hk;exact absurd hk (by decide)
  rw[fo k this];exact⟨hk,rfl⟩
 refine⟨P.len,fun j hj=>P.vb j hj,fun k j h => ?_,fun k j h => ?_,fun j hj h => ?_,fun k j h => ?_,fun k j h => ?_,fun k j h => ?_,fun k e h => ?_,fun k h => ?_⟩
 ·simp only[facc]at h;exact P.a0 k j h
 ·simp only[facc]at h
  obtain⟨x,y⟩:=P.a1 k j h
  exact⟨(fask k x).1,y⟩
 ·obtain⟨k,x,y,z⟩:=P.a2 j hj h
  exact⟨k,x,(fask k y).1,(fask k y).2.trans z⟩
 ·simp only[fprom]at h;exact P.p0 k j h
 ·simp only[fprom]at h;exact P.p1 k j h
 ·simp only[fprom]at h
  obtain⟨e,he,hx⟩:=P.h1 k j h
  exact⟨e,by simp only[fheard];exact he,fun k' hk' ha=>hx k' hk' (by simpa only[facc]using ha)⟩
 ·simp only[fheard]at h
  obtain⟨x,y,z⟩:=P.h2 k e h
  refine⟨x,y,fun h0 => ?_⟩
  obtain⟨k',z1,z2,z3⟩:=z h0
  exact⟨k',z1,(fask k' z2).1,(fask k' z2).2.trans z3⟩
 ·by_cases hk:k=b
  ·subst hk
   have hne:(c.all k).heard ≠ []:=fun e=>by
    have hp:0<pcK (c.all k).prom 32:=by omega
    obtain⟨j,hj⟩:∃j,zbj (c.all k).prom j=true:=by
     refine Classical.byContradiction fun hn => ?_
     have:=(z06 0 (c.all k).prom 0 (fun j hj=>absurd ⟨j,hj⟩ hn) (fun j hj=>by rw[zmf]at hj;exact absurd hj (by decide)) (fun j hj=>hn ⟨j,hj.1⟩) 32).2
     omega
    obtain⟨e',he',-⟩:=P.h1 k j hj
    rw[e]at he';exact absurd he' List.not_mem_nil
   obtain⟨a,r,hr⟩:∃a r,(c.all k).heard=a::r:=by
    cases hh:(c.all k).heard with
    | nil=>exact absurd hh hne
    | cons a r=>exact⟨a,r,rfl⟩
   have hbm:zd5 (a::r) a∈(c.all k).heard:=by
    rw[hr]
    rcases List.mem_cons.1 (zxb (a::r) a)with e|e
    ·rw[e];simp
    ·exact e
   have hbg:=(z31 (a::r) a).2
   obtain⟨x1,x2,x3⟩:=P.h2 k _ hbm
   refine⟨(c.all k).prom,(zd5 (a::r) a).b,hq,fun j hj=>⟨P.p0 k j hj,P.p1 k j hj,fun k' hk' hacc => ?_⟩,x2,?_⟩
   ·obtain⟨e,he,hx⟩:=P.h1 k j hj
    have h1:=hx k' hk' (by simpa only[facc]using hacc)
    have h2:=hbg e (by rw[←hr];exact he)
    omega
   ·by_cases h0:(zd5 (a::r) a).b=0
    ·left;omega
    ·right
     obtain⟨k',z1,z2,z3⟩:=x3 h0
     refine⟨k',z1,(fask k' z2).1,(fask k' z2).2.trans ?_⟩
     simp only[fb]
     rw[hr]
     unfold zez
     simp only
     rw[if_neg h0];exact z3
  ·simp only[fo k hk]at h
   obtain⟨Q,m,q1,q2,q3,q4⟩:=P.s k h
   refine⟨Q,m,q1,fun j hj => ?_,q3,?_⟩
   ·obtain⟨x,y,z⟩:=q2 j hj
    exact⟨x,y,fun k' hk' ha=>z k' hk' (by simpa only[facc]using ha)⟩
   ·rcases q4 with q4|⟨k',z1,z2,z3⟩
    ·exact .inl q4
    ·refine .inr ⟨k',z1,(fask k' z2).1,(fask k' z2).2.trans ?_⟩
     simp only[fo k hk];exact z3
theorem ybe {n:Nat} {c:Cn} (P:Pax n c) {b i:Nat} {t:Nat→Bool} (hi:i<n) (hb:1≤b) (ha:(c.all b).asked=true) (h:(zce c i).p≤(b:Int)):Pax n ⟨c.vows.set i ⟨b,b,(c.all b).value⟩,zlf c.all b { c.all b with acc:=(c.all b).acc ||| 2 ^ i },t⟩:=by
 have hl:i<c.vows.length:=by rw[P.len];exact hi
 obtain⟨f,hf⟩:∃f,f=zlf c.all b { c.all b with acc:=(c.all b).acc ||| 2 ^ i }:=⟨_,rfl⟩
 have fb:f b = { c.all b with acc:=(c.all b).acc ||| 2 ^ i }:=by rw[hf,zec]
 have fo:∀k,k≠b→f k=c.all k:=fun k hk=>by rw[hf,zc6 _ _ hk]
 rw[←hf]
 have fr:∀k,(f k).prom=(c.all k).prom∧(f k).heard=(c.all k).heard∧(f k).asked=(c.all k).asked∧(f k).value=(c.all k).value:=fun k=>by
  by_cases hk:k=b
  ·subst hk;rw[fb];exact⟨rfl,rfl,rfl,rfl⟩
  ·rw[fo k hk];exact⟨rfl,rfl,rfl,rfl⟩
 have fprom:=fun k=>(fr k).1
 have fheard:=fun k=>(fr k).2.1
 have fask:=fun k=>(fr k).2.2.1
 have fval:=fun k=>(fr k).2.2.2
 have facc:∀k j,zbj (f k).acc j=true→zbj (c.all k).acc j=true∨(k=b∧j=i):=fun k j hj=>by
  by_cases hk:k=b
  ·subst hk
   rw[fb]at hj
   simp only at hj
   rw[z9j,Bool.or_eq_true,decide_eq_true_iff]at hj
   rcases hj with hj|hj
   ·exact .inl hj
   ·exact .inr ⟨rfl,hj.symm⟩
  ·rw[fo k hk]at hj;exact .inl hj
 have hle:=P.vb i hi
 have V:=fun j=>zug (c:=c) (i:=i) (v:=⟨b,b,(c.all b).value⟩) (f:=f) (t:=t) hl j
 have Vp:∀j,(zce c j).p≤(zce ⟨c.vows.set i ⟨b,b,(c.all b).value⟩,f,t⟩ j).p:=fun j=>by
  rw[V];split
  ·rename_i e;rw[e];exact h
  ·exact Int.le_refl _
 have Vb:∀j,(zce c j).b≤(zce ⟨c.vows.set i ⟨b,b,(c.all b).value⟩,f,t⟩ j).b:=fun j=>by
  rw[V];split
  ·rename_i e;rw[e];show (zce c i).b≤(b:Int);omega
  ·exact Int.le_refl _
 -- who promised a later ballot accepts none before it
 have late:∀k k' j,zbj (f k').acc j=true→k'<k→(k:Int)≤(zce c j).p→zbj (c.all k').acc j=true:=fun k k' j hj hk hp=>by
  rcases facc k' j hj with x|⟨rfl,rfl⟩
  ·exact x
  ·omega
 refine⟨by simp only[List.length_set];exact P.len,fun j hj => ?_,fun k j h => ?_,fun k j h => ?_,fun j hj h => ?_,fun k j h => ?_,fun k j h => ?_,fun k j h => ?_,fun k e h => ?_,fun k h => ?_⟩
 ·rw[V];split
  ·show 0≤(b:Int)∧(b:Int)≤b;omega
  ·exact P.vb j hj
 ·rcases facc k j h with h|⟨rfl,rfl⟩
  ·exact P.a0 k j h
  ·exact⟨hi,hb⟩
 ·rcases facc k j h with h|⟨rfl,rfl⟩
  ·obtain⟨x,y⟩:=P.a1 k j h
   exact⟨by simp only[fask];exact x,Int.le_trans y (Vb j)⟩
  ·refine⟨by simp only[fask];exact ha,?_⟩
   rw[V,if_pos rfl];exact Int.le_refl _
 ·rw[V]at h ⊢
  by_cases e:j=i
  ·rw[if_pos e]
   exact⟨b,rfl,by simp only[fask];exact ha,by simp only[fval]⟩
  ·rw[if_neg e]at h ⊢
   obtain⟨k,x,y,z⟩:=P.a2 j hj h
   exact⟨k,x,by simp only[fask];exact y,by simp only[fval];exact z⟩
 ·simp only[fprom]at h;exact P.p0 k j h
 ·simp only[fprom]at h;exact Int.le_trans (P.p1 k j h) (Vp j)
 ·simp only[fprom]at h
  obtain⟨e,he,hx⟩:=P.h1 k j h
  exact⟨e,by simp only[fheard];exact he,fun k' hk' ha=>hx k' hk' (late k k' j ha hk' (P.p1 k j h))⟩
 ·simp only[fheard]at h
  obtain⟨x,y,z⟩:=P.h2 k e h
  refine⟨x,y,fun h0 => ?_⟩
  obtain⟨k',z1,z2,z3⟩:=z h0
  exact⟨k',z1,by simp only[fask];exact z2,by simp only[fval];exact z3⟩
 ·simp only[fask]at h
  obtain⟨Q,m,q1,q2,q3,q4⟩:=P.s k h
  refine⟨Q,m,q1,fun j hj => ?_,q3,?_⟩
  ·obtain⟨x,y,z⟩:=q2 j hj
   exact⟨x,Int.le_trans y (Vp j),fun k' hk' ha=>z k' hk' (late k k' j ha hk' y)⟩
  ·rcases q4 with q4|⟨k',z1,z2,z3⟩
   ·exact .inl q4
   ·exact .inr ⟨k',z1,by simp only[fask];exact z2,by simp only[fval];exact z3⟩
theorem yjv {n:Nat} {c:Cn} (P:Pax n c) (t:Nat→Bool):Pax n ⟨c.vows,c.all,t⟩:=⟨P.len,P.vb,P.a0,P.a1,P.a2,P.p0,P.p1,P.h1,P.h2,P.s⟩
theorem z5v {n:Nat} {c:Cn} (P:Pax n c) {x:Stp} (h:zk2 n x):Pax n (zet c x):=by
 obtain⟨h1,h2,h3⟩:=h
 have eb:x.ballot=((x.ballot.toNat:Nat):Int):=by omega
 have hi:x.who.toNat<n:=by omega
 unfold zet
 simp only
 split
 ·rename_i k
  have:=z5w P (b:=x.ballot.toNat) (i:=x.who.toNat) (t:=fun k=>c.told k||decide (k=x.ballot.toNat)) hi (by omega)
  rwa [←eb]at this
 ·split
  ·rename_i k
   exact ybd P k.2.1 (by rw[←P.len];exact k.2.2)
  ·split
   ·rename_i k
    have:=ybe P (b:=x.ballot.toNat) (i:=x.who.toNat) (t:=fun k=>c.told k||decide (k=x.ballot.toNat)) hi (by omega) k.2.1 (by omega)
    rwa [←eb]at this
   ·exact yjv P _
theorem zqq {n:Nat} : ∀(l:List Stp) {c:Cn},Pax n c→(∀x∈l,zk2 n x)→Pax n (zc0 c l)
 | [],_,P,_=>P
 | x::r,c,P,h=>zqq r (z5v P (h x (by simp))) (fun y hy=>h y (by simp[hy]))
theorem z81 {n:Nat} {c:Cn} (P:Pax n c):∀(k:Nat),(c.all k).asked=true→∀j,j≤k→n<2*pcK (c.all j).acc 32→(c.all k).value=(c.all j).value:=by
 intro k
 induction k using Nat.strongRecOn with
 | _ k ih =>
  intro hk j hj hq
  rcases Nat.lt_or_ge j k with h|h
  ·obtain⟨Q,m,q1,q2,q3,q4⟩:=P.s k hk
   obtain⟨i,i1,i2⟩:=yme (fun i hi=>(q2 i hi).1) (fun i hi=>(P.a0 j i hi).1) q1 hq
   have hm:=(q2 i i1).2.2 j h i2
   have hj1:=(P.a0 j i i2).2
   rcases q4 with q4|⟨k',z1,z2,z3⟩
   ·omega
   ·rw[←z3]
    exact ih k' (by omega) z2 j (by omega) hq
  ·rw[show j=k by omega]
theorem ybc {n:Nat} {c:Cn} (P:Pax n c) {j k:Nat} (hj:(c.all j).asked=true) (hk:(c.all k).asked=true) (qj:n<2*pcK (c.all j).acc 32) (qk:n<2*pcK (c.all k).acc 32):(c.all j).value=(c.all k).value:=by
 rcases Nat.le_total j k with h|h
 ·exact(z81 P k hk j h qj).symm
 ·exact z81 P j hj k h qk
def zbg (t:Nat→Bool):List Nat:=(List.range 51).filter t
def zgz (t:Nat→Bool) (b:Nat):Nat:=((List.range b).filter t).length
def zfd (t:Nat→Bool) (b:Nat):Nat→Bool:=fun k=>t k||decide (k=b)
theorem z03 (b:Nat) (h:b≤50):List.range 51=List.range b++b::List.range' (b+1) (50-b):=by
 have h1:List.range 51=List.range' 0 b++List.range' b (51-b):=by
  rw[List.range_eq_range',show 51=b+(51-b)by omega,←List.range'_append]
  simp
 rw[h1,←List.range_eq_range',show 51-b=(50-b)+1 by omega,List.range'_succ]
theorem zgt {α : Type} {p q : α → Bool} : ∀(l:List α),(∀x∈l,p x=q x)→l.filter p=l.filter q
 | [],_=>rfl
 | a::l,h=>by
  rw[List.filter_cons,List.filter_cons,h a (by simp),zgt l (fun x hx=>h x (by simp[hx]))]
theorem zjf (t:Nat→Bool) (b:Nat) (h:b≤50):zbg t=(List.range b).filter t++((if t b then [b]else [])++(List.range' (b+1) (50-b)).filter t):=by
 unfold zbg
 rw[z03 b h,List.filter_append,List.filter_cons]
 split<;>rfl
theorem zl1 (t:Nat→Bool) (b:Nat) (h:b≤50) (ht:t b=true):(zbg t)[zgz t b]? = some b:=by
 rw[zjf t b h,if_pos ht]
 unfold zgz
 rw[List.getElem?_append_right (Nat.le_refl _),Nat.sub_self];rfl
theorem ycp (t:Nat→Bool) (b:Nat) (h:b≤50) (ht:t b=false):zbg (zfd t b)=(zbg t).take (zgz t b)++b::(zbg t).drop (zgz t b):=by
 have e1:(List.range b).filter (zfd t b)=(List.range b).filter t:=zgt _ fun x hx=>by
  have:=List.mem_range.1 hx
  unfold zfd;rw[decide_eq_false (by omega),Bool.or_false]
 have e2:(List.range' (b+1) (50-b)).filter (zfd t b)=(List.range' (b+1) (50-b)).filter t:=zgt _ fun x hx=>by
  have:=List.mem_range'_1.1 hx
  unfold zfd;rw[decide_eq_false (by omega),Bool.or_false]
 have e3:zfd t b b=true:=by unfold zfd;rw[decide_eq_true rfl,Bool.or_true]
 rw[zjf (zfd t b) b h,zjf t b h,if_pos e3,if_neg (by rw[ht];decide),e1,e2,List.nil_append]
 unfold zgz
 rw[List.take_left,List.drop_left]
 rfl
theorem z76 (t:Nat→Bool) (b:Nat) (ht:t b=true):zfd t b=t:=by
 funext k
 unfold zfd
 by_cases h:k=b
 ·subst h;rw[ht];rfl
 ·rw[decide_eq_false h,Bool.or_false]
theorem z60 (t:Nat→Bool):(zbg t).Pairwise (· < ·):=List.pairwise_lt_range.filter _
theorem zl0 (t:Nat→Bool):(zbg t).length≤51:=Nat.le_trans (List.length_filter_le _ _) (by simp)
theorem z2j (t:Nat→Bool) (k:Nat) (h:k∈zbg t):k≤50∧t k=true:=by
 obtain⟨h1,h2⟩:=List.mem_filter.1 h
 exact⟨by have:=List.mem_range.1 h1;omega,h2⟩
theorem z04 (t:Nat→Bool) (b:Nat) (h:b≤50):zgz t b≤(zbg t).length:=by
 rw[zjf t b h,List.length_append];unfold zgz;omega
theorem zri (t:Nat→Bool) (b j:Nat) (h:b≤50) (hj:j<zgz t b):(zbg t).getD j default<b:=by
 have hp:=z04 t b h
 rw[List.getD_eq_getElem?_getD,zjf t b h,List.getElem?_append_left hj]
 have hj':j<((List.range b).filter t).length:=hj
 rw[List.getElem?_eq_getElem hj']
 have:=List.getElem_mem hj'
 have:=List.mem_range.1 (List.mem_filter.1 this).1
 simpa using this
theorem zrj (t:Nat→Bool) (b j:Nat) (h:b≤50) (hj:zgz t b≤j) (hl:j<(zbg t).length):b≤(zbg t).getD j default:=by
 rw[zjf t b h]at hl ⊢
 have hj':((List.range b).filter t).length≤j:=hj
 rw[List.getD_eq_getElem?_getD,List.getElem?_append_right hj']
 rw[List.length_append]at hl
 have hl2:j-((List.range b).filter t).length<((if t b then [b]else [])++(List.range' (b+1) (50-b)).filter t).length:=by omega
 rw[List.getElem?_eq_getElem hl2]
 have hm:=List.getElem_mem hl2
 generalize (((if t b then [b]else [])++(List.range' (b+1) (50-b)).filter t)[j-((List.range b).filter t).length]'hl2)=x at *
 rcases List.mem_append.1 hm with hm|hm
 ·split at hm
  ·rw[List.mem_singleton.1 hm];exact Nat.le_refl _
  ·simp at hm
 ·have:=List.mem_range'_1.1 (List.mem_filter.1 hm).1
  show b≤x
  omega
theorem ygp (t:Nat→Bool) (b:Nat) (h:b≤50):(zgz t b<(zbg t).length∧(zbg t).getD (zgz t b) default=b)↔t b=true:=by
 constructor
 ·rintro⟨h1,h2⟩
  have:=z2j t b (by rw[←h2,List.getD_eq_getElem?_getD,List.getElem?_eq_getElem h1];exact List.getElem_mem h1)
  exact this.2
 ·intro ht
  have:=zl1 t b h ht
  refine⟨(List.getElem?_eq_some_iff.1 this).1,?_⟩
  rw[List.getD_eq_getElem?_getD,this];rfl
theorem z2i {β : Type} (t:Nat→Bool) (b:Nat) (h:b≤50) (ht:t b=true) (f g:Nat → β) (hg:∀k,k≠b→g k=f k):(zbg t).map g=((zbg t).map f).set (zgz t b) (g b):=by
 apply List.ext_getElem?
 intro j
 rw[List.getElem?_map,List.getElem?_set,List.getElem?_map]
 have hget:=zl1 t b h ht
 by_cases hj:zgz t b=j
 ·subst hj
  rw[if_pos rfl,hget,if_pos (by rw[List.length_map];exact(List.getElem?_eq_some_iff.1 hget).1)];rfl
 ·rw[if_neg hj]
  cases hx:(zbg t)[j]? with
  | none=>rfl
  | some x =>
   have hne:x≠b:=by
    rintro rfl
    obtain⟨a1,a2⟩:=List.getElem?_eq_some_iff.1 hget
    obtain⟨b1,b2⟩:=List.getElem?_eq_some_iff.1 hx
    have hs:=List.pairwise_iff_getElem.1 (z60 t)
    rcases Nat.lt_trichotomy (zgz t x) j with h1|h1|h1
    ·have:=hs _ _ a1 b1 h1;omega
    ·exact hj h1
    ·have:=hs _ _ b1 a1 h1;omega
   simp only[Option.map_some]
   rw[hg x hne]
end Go.Proofs.YtmjbgbmegbkmhaaGreat
namespace Go.Proofs.YtmjbgbmegbkmhaaGreat
set_option linter.all false
open Go.RowKit Go.Lib
set_option maxRecDepth 100000
set_option maxHeartbeats 4000000
theorem zdz {P:Program} (w:World) (dT sT ty elem:TypeId) (sz g o dLen dCap:Nat) (a:Addr) (sLen sCap:Nat) (cur:Array Value) (t:TypeId) (cs:List Value)
 (hu:P.underlying dT=some (.slice elem)) (hs:(P.info? elem).map (·.size)=some sz)
 (hg:w.heap[g]? = some (.cells cur t (0,0))) (hn:cs.length=Nat.min sLen dLen*sz)
 (hsrc:∀j v,cs[j]? = some v→w.cell? (a.add j)=some v) (hfit:o+cs.length≤cur.size) (h1:∀v∈cs,v.oneCell'=true) :
 (Builtin.copy_ #[dT,sT] ty #[.slice (some ⟨g,o,none⟩) dLen dCap,.slice (some a) sLen sCap]).run P w = .ok (goInt (Nat.min sLen dLen)) (w.setRow g (zad cur.toList o cs).toArray):=by
 have hst:=run_storeCells_at P g o t cs 0 cur w hg (by simpa using hfit) h1
 have hsp:cur.toList.take (o+0)++cs++cur.toList.drop (o+0+cs.length)=zad cur.toList o cs:=by unfold zad;simp
 rw[hsp]at hst
 cases hq:P.info? elem with
 | none=>simp[hq]at hs
 | some i =>
  have hi:i.size=sz:=by simpa[hq]using hs
  have hfc:(Builtin.firstCells sz (Nat.min sLen dLen) (.slice (some a) sLen sCap)).run P w = .ok cs.toArray w:=run_firstCells_some _ _ _ _ _ _ cs hn hsrc
  simp[Builtin.copy_,run_underlying hu,Builtin.lenOf,sizeOf,typeInfo,hq,hi,hfc,hst]
theorem z2f (b n c i vb vc:Nat) (cur:Array Value) (t0:TypeId) (cs x:List Value) (w:World) (hi:i<n) (hroom:n+1≤c) (hc63:c≤9223372036854775807) (hvb:vb≠b)
 (hg:w.heap[b]? = some (.cells cur t0 (0,0))) (hcs:cs.length=n*6) (hcur:cur.size=c*6) (hx:x.length=6)
 (hcell:∀j v,cs[j]? = some v→w.cell? ⟨b,j,none⟩=some v)
 (hvs:∀j v,x[j]? = some v→w.cell? ⟨vb,j,none⟩=some v) (h1c:∀v∈cs,v.oneCell'=true) (h1v:∀v∈x,v.oneCell'=true)
 (tA:TypeId) (kA:Nat) (hsa:w.shape? vb=some (tA,kA)) (hfa:w.frozen? ⟨vb,0,none⟩=false) (hfe:w.frozen? ⟨vb,kA,none⟩=false) :
 Calls Tryz.prog 140 #[.slice (some ⟨b,0,none⟩) n c,.int .i64 i,.slice (some ⟨vb,0,none⟩) 1 vc] w fun e w' =>
  e = .returned (.slice (some ⟨b,0,none⟩) (n+1) c)∧w'=(w.drew.setRow b (zad cur.toList ((i+1)*6) (cs.drop (i*6))).toArray).setRow b (zad (zad cur.toList ((i+1)*6) (cs.drop (i*6))) (i*6) x).toArray:=by
 have hsz:(Tryz.prog.info? 154).map (·.size)=some 6:=by kernel_rfl
 have hz:∀w,(Go.sizeOf 154).run Tryz.prog w = .ok 6 w:=fun w=>by
  cases hq:Tryz.prog.info? 154 with
  | none=>simp[hq]at hsz
  | some i0 =>
   have h6:i0.size=6:=by simpa[hq]using hsz
   simp[sizeOf,typeInfo,hq,h6]
 have hsb:w.shape? b=some (t0,cur.size):=by simp[World.shape?,hg]
 have hov:∀lb cb,(callFunc 168 #[.slice (some ⟨vb,0,none⟩) 1 vc,.slice (some ⟨b,(i+1)*6,none⟩) lb cb]).run Tryz.prog w = .ok (.value (.bool false)) w:=fun lb cb=>by
  rw[run_callFunc_extern Tryz.func168 (by kernel_rfl) (by kernel_rfl) (by kernel_rfl) (e:=Extern.SlicesOverlaps.overlaps #[70,70] #[4]) (by kernel_rfl),
   Lib.run_overlaps_apart w 70 4 154 Tryz.underlying70 6 hz ⟨vb,0,none⟩ ⟨b,(i+1)*6,none⟩ 1 vc lb cb hvb tA t0 kA cur.size hsa hsb (by omega) hfa hfe]
  rfl
 have hdl:(cs.drop (i*6)).length=(n-i)*6:=by rw[List.length_drop,hcs];omega
 have hcp1:∀ty dc sc,(Builtin.copy_ #[70,70] ty #[.slice (some ⟨b,(i+1)*6,none⟩) (n-i) dc,.slice (some ⟨b,i*6,none⟩) (n+1-i) sc]).run Tryz.prog w.drew = .ok (goInt ((n-i:Nat):Int)) (w.drew.setRow b (zad cur.toList ((i+1)*6) (cs.drop (i*6))).toArray):=fun ty dc sc=>by
  have hm:Nat.min (n+1-i) (n-i)=n-i:=by simp only[Nat.min_def];split<;>omega
  have:=zdz w.drew 70 70 ty 154 6 b ((i+1)*6) (n-i) dc ⟨b,i*6,none⟩ (n+1-i) sc cur t0 (cs.drop (i*6)) Tryz.underlying70 hsz hg (by rw[hm,hdl]) (fun j v hj=>by rw[Addr.add_lit];exact hcell _ v (by rwa [List.getElem?_drop]at hj)) (by rw[hdl,hcur];omega) (fun v hv=>h1c v (List.mem_of_mem_drop hv))
  rw[hm]at this
  exact this
 obtain⟨W1,hW1⟩:∃W1,W1=w.drew.setRow b (zad cur.toList ((i+1)*6) (cs.drop (i*6))).toArray:=⟨_,rfl⟩
 have hl1:(zad cur.toList ((i+1)*6) (cs.drop (i*6))).length=c*6:=by rw[zat _ _ _ (by rw[hdl,Array.length_toList,hcur];omega),Array.length_toList,hcur]
 have hg1:W1.heap[b]? = some (.cells (zad cur.toList ((i+1)*6) (cs.drop (i*6))).toArray t0 (0,0)):=by rw[hW1];exact setRow_heap w.drew b cur _ t0 (0,0) hg
 have hv1:∀j v,x[j]? = some v→W1.cell? ⟨vb,j,none⟩=some v:=fun j v hj=>by
  rw[hW1,World.cell?_of_block (w:=w.drew) (a:=⟨vb,j,none⟩) (setRow_other w.drew b vb _ hvb)]
  exact hvs j v hj
 have hcp2:∀ty dc,(Builtin.copy_ #[70,70] ty #[.slice (some ⟨b,i*6,none⟩) (n+1-i) dc,.slice (some ⟨vb,0,none⟩) 1 vc]).run Tryz.prog W1 = .ok (goInt 1) (W1.setRow b (zad (zad cur.toList ((i+1)*6) (cs.drop (i*6))) (i*6) x).toArray):=fun ty dc=>by
  have hm:Nat.min 1 (n+1-i)=1:=by simp only[Nat.min_def];split<;>omega
  have:=zdz W1 70 70 ty 154 6 b (i*6) (n+1-i) dc ⟨vb,0,none⟩ 1 vc _ t0 x Tryz.underlying70 hsz hg1 (by rw[hm,hx]) (fun j v hj=>by rw[Addr.add_lit,Nat.zero_add];exact hv1 j v hj) (by simp only[List.size_toArray];rw[hl1,hx];omega) h1v
  rw[hm]at this
  exact this
 subst hW1
 have mixed:Tryz.prog.follows .mixedOrders=true:=by kernel_rfl
 have hw1:IntKind.i64.wrap ((i:Int)+1)=(i:Int)+1:=by rw[IntKind.wrap_i64];omega
 have hb1:(0:Int)≤(i:Int)+1:=by omega
 have hin:i≤n:=by omega
 have htn:((i:Int)+1).toNat=i+1:=by omega
 have hb2:¬(c=i+1):=by omega
 have hb3:(i:Int)≤(n:Int)+1:=by omega
 have hb4:¬(c=i):=by omega
 have hb5:n+1-(i+1)=n-i:=by omega
 go_enter Tryz.func140,Tryz.ntmps140
 go_wp2_with (simp only[hov])
 go_region_law_o (refine step_copy_runI rfl _ _ 70 70 rfl _ _ (by simp[Act.eval,Act.put]) (by simp[Act.eval,Act.put]) (hcp1 _ _ _) ?_)
 go_wp2_with (simp only[hcp2])
 go_ret
 exact⟨rfl,rfl⟩
theorem zi1:∃i0 z,Tryz.prog.info? 154=some i0∧i0.zero=some z∧i0.size=6∧i0.bytes=64∧z.cells.size=6:=by
 have hI:(Tryz.prog.info? 154).map (fun i=>(i.size,i.bytes,i.zero.map fun z=>z.cells.size))=some (6,64,some 6):=by kernel_rfl
 cases hq:Tryz.prog.info? 154 with
 | none=>rw[hq]at hI;simp at hI
 | some i0 =>
  rw[hq]at hI
  simp only[Option.map_some,Option.some.injEq,Prod.mk.injEq]at hI
  cases hz:i0.zero with
  | none=>rw[hz]at hI;simp at hI
  | some z =>
   rw[hz]at hI
   simp only[Option.map_some,Option.some.injEq]at hI
   exact⟨i0,z,rfl,hz,hI.1,hI.2.1,hI.2.2⟩
theorem z6z (b n c i vb vc:Nat) (cs x:List Value) (w:World) (hi:i<n) (hnc:n≤c) (hroom:c<n+1) (hbig:(n+1)*64≤140737488355328)
 (hcs:cs.length=n*6) (hx:x.length=6) (hbw:b<w.heap.size) (hvw:vb<w.heap.size)
 (hcell:∀j v,cs[j]? = some v→w.cell? ⟨b,j,none⟩=some v)
 (hvs:∀j v,x[j]? = some v→w.cell? ⟨vb,j,none⟩=some v) (h1c:∀v∈cs,v.oneCell'=true) (h1v:∀v∈x,v.oneCell'=true) :
 Calls Tryz.prog 140 #[.slice (some ⟨b,0,none⟩) n c,.int .i64 i,.slice (some ⟨vb,0,none⟩) 1 vc] w fun e w' =>
  ∃G ROW,e = .returned (.slice (some ⟨w.heap.size,0,none⟩) (n+1) G)∧n+1≤G∧G≤maxLen∧ROW.length=G*6∧ROW.take (i*6)=cs.take (i*6) ∧
   w'.heap[w.heap.size]? = some (.cells (zad (zad ROW (i*6) x) ((i+1)*6) (cs.drop (i*6))).toArray 154 (0,0))∧w.grownBy w' none:=by
 obtain⟨i0,z,hi0,hz0,hzs,hzb,hzc⟩:=zi1
 have hsz:(Tryz.prog.info? 154).map (·.size)=some 6:=by rw[hi0];simp[hzs]
 have hik:i+(n+1-i)=n+1:=by omega
 have hkk:(n:Int)+1-(i:Int)=((n+1-i:Nat):Int):=by omega
 have hold:(Builtin.firstCells i0.size i (.slice (some ⟨b,0,none⟩) i c)).run Tryz.prog w.drew = .ok (cs.take (i*6)).toArray w.drew:=by
  rw[hzs]
  exact run_firstCells_some w.drew 6 i ⟨b,0,none⟩ i c (cs.take (i*6)) (by rw[List.length_take];omega) (fun j v hj=>by
   rw[Addr.add_lit,Nat.zero_add]
   rw[List.getElem?_take]at hj
   split at hj
   ·exact hcell j v hj
   ·cases hj)
 have hgf:Builtin.nextslicecap (n+1) c*i0.bytes≤281474976710656:=by rw[hzb];exact growslice_fits hroom hbig
 have hrz:∀ty,(Builtin.append_ #[70,3] ty #[.slice (some ⟨b,0,none⟩) i c,.int .i64 ((n:Int)+1-(i:Int))]).run Tryz.prog w =
  .ok (.slice (some ⟨w.heap.size,0,none⟩) (n+1) (grownCap w (n+1) c 154)) (w.drew.alloc (.cells ((cs.take (i*6)).toArray++Builtin.zeroCells z.cells (n+1-i)++Builtin.zeroCells z.cells (grownCap w (n+1) c 154-(n+1))) 154)):=fun ty=>by
  have h:=Lib.run_append_grow_zeros w 70 3 ty 154 i0 z .i64 .i64 Tryz.underlying70 Tryz.underlying3 hi0 hz0 (some ⟨b,0,none⟩) i c (cs.take (i*6)) hold (n+1-i) (by omega) (by omega) (by omega) (by omega) (by rw[hzb];omega) (by rw[hik];exact hgf)
  rw[hik]at h
  rw[hkk]
  exact h
 have hGn:n+1≤grownCap w (n+1) c 154:=grownCap_ge w _ _ _
 have hGm:grownCap w (n+1) c 154≤maxLen:=grownCap_le_maxLen w (n+1) c 154 (by unfold maxLen;omega)
 obtain⟨G,hG⟩:∃G,G=grownCap w (n+1) c 154:=⟨_,rfl⟩
 obtain⟨ROW,hROW⟩:∃ROW:Array Value,ROW=(cs.take (i*6)).toArray++Builtin.zeroCells z.cells (n+1-i)++Builtin.zeroCells z.cells (G-(n+1)):=⟨_,rfl⟩
 rw[←hG]at hrz hGn hGm
 rw[←hROW]at hrz
 have hRl:ROW.size=G*6:=by
  rw[hROW]
  simp only[Array.size_append,List.size_toArray,size_zeroCells,hzc,List.length_take]
  omega
 have hRt:ROW.toList.take (i*6)=cs.take (i*6):=by
  rw[hROW]
  simp only[Array.toList_append,List.append_assoc]
  rw[List.take_append_of_le_length (by simp;omega)]
  show List.take (i*6) (List.take (i*6) cs)=_
  rw[List.take_take,Nat.min_self]
 clear hold hik hgf hG hROW
 obtain⟨W1,hW1⟩:∃W1,W1=w.drew.alloc (.cells ROW 154):=⟨_,rfl⟩
 have hg1:W1.heap[w.heap.size]? = some (.cells ROW 154 (0,0)):=by rw[hW1];exact heap_alloc_new w.drew _
 have ho1:∀k,k<w.heap.size→W1.heap[k]? = w.heap[k]? := fun k hk=>by rw[hW1];exact heap_alloc_old w.drew _ hk
 have hdl:(cs.drop (i*6)).length=(n-i)*6:=by rw[List.length_drop,hcs];omega
 have hl1:(zad ROW.toList (i*6) x).length=G*6:=by rw[zat _ _ _ (by rw[hx,Array.length_toList,hRl];omega),Array.length_toList,hRl]
 have hcpA:∀(W:World),W.heap=W1.heap→∀ty dc,(Builtin.copy_ #[70,70] ty #[.slice (some ⟨w.heap.size,i*6,none⟩) (n+1-i) dc,.slice (some ⟨vb,0,none⟩) 1 vc]).run Tryz.prog W = .ok (goInt 1) (W.setRow w.heap.size (zad ROW.toList (i*6) x).toArray):=fun W hW ty dc=>by
  have hm:Nat.min 1 (n+1-i)=1:=by simp only[Nat.min_def];split<;>omega
  have:=zdz W 70 70 ty 154 6 w.heap.size (i*6) (n+1-i) dc ⟨vb,0,none⟩ 1 vc ROW 154 x Tryz.underlying70 hsz (by rw[hW];exact hg1) (by rw[hm,hx]) (fun j v hj=>by
   rw[Addr.add_lit,Nat.zero_add,World.cell?_of_block (w:=w) (a:=⟨vb,j,none⟩) (by rw[hW];exact ho1 vb hvw)]
   exact hvs j v hj) (by rw[hx,hRl];omega) h1v
  rw[hm]at this
  exact this
 have hcpB:∀(W:World),W.heap=(W1.setRow w.heap.size (zad ROW.toList (i*6) x).toArray).heap→∀ty dc sc,(Builtin.copy_ #[70,70] ty #[.slice (some ⟨w.heap.size,(i+1)*6,none⟩) (n-i) dc,.slice (some ⟨b,i*6,none⟩) (n-i) sc]).run Tryz.prog W = .ok (goInt ((n-i:Nat):Int)) (W.setRow w.heap.size (zad (zad ROW.toList (i*6) x) ((i+1)*6) (cs.drop (i*6))).toArray):=fun W hW ty dc sc=>by
  have hm:Nat.min (n-i) (n-i)=n-i:=by simp only[Nat.min_def];split<;>omega
  have:=zdz W 70 70 ty 154 6 w.heap.size ((i+1)*6) (n-i) dc ⟨b,i*6,none⟩ (n-i) sc (zad ROW.toList (i*6) x).toArray 154 (cs.drop (i*6)) Tryz.underlying70 hsz (by rw[hW];exact setRow_heap W1 w.heap.size ROW _ 154 (0,0) hg1) (by rw[hm,hdl]) (fun j v hj=>by
   rw[Addr.add_lit,World.cell?_of_block (w:=w) (a:=⟨b,i*6+j,none⟩) (by rw[hW,setRow_other W1 w.heap.size b _ (by omega)];exact ho1 b hbw)]
   exact hcell _ v (by rwa [List.getElem?_drop]at hj)) (by rw[hdl];simp only[List.size_toArray];rw[hl1];omega) (fun v hv=>h1c v (List.mem_of_mem_drop hv))
  rw[hm]at this
  exact this
 have mixed:Tryz.prog.follows .mixedOrders=true:=by kernel_rfl
 have hG63:G≤9223372036854775807:=by unfold maxLen at hGm;omega
 have hGi:¬(G=i):=by omega
 have hGim:¬(G=i+1):=by omega
 have hci:¬(c=i):=by omega
 have hw1:IntKind.i64.wrap ((i:Int)+1)=(i:Int)+1:=by rw[IntKind.wrap_i64];omega
 have hb1:(0:Int)≤(i:Int)+1:=by omega
 have hin:i≤n:=by omega
 have htn:((i:Int)+1).toNat=i+1:=by omega
 have hb3:(i:Int)≤(n:Int):=by omega
 have hz3:(c:Int)<(n:Int)+1:=by omega
 clear hkk
 subst hW1
 have hA:=hcpA (w.alloc (.cells ROW 154)).drew rfl
 have hB:=hcpB ((w.alloc (.cells ROW 154)).drew.setRow w.heap.size (zad ROW.toList (i*6) x).toArray).drew rfl
 go_enter Tryz.func140,Tryz.ntmps140
 go_wp2_with (first
  | (at_builtin;refine Lib.wpList_append_run _ rfl _ _ _ _ rfl _ _ rfl rfl _ _ (hrz _) ?_)
  | simp only[hA])
 go_region_law_o (refine step_copy_runI rfl _ _ 70 70 rfl _ _ (by simp[Act.eval,Act.put]) (by simp[Act.eval,Act.put]) (hB _ _ _) ?_)
 go_wp2
 go_ret
 have g1:(w.alloc (.cells ROW 154)).drew.heap[w.heap.size]? = some (.cells ROW 154 (0,0)):=hg1
 refine⟨G,ROW.toList,rfl,hGn,hGm,by rw[Array.length_toList];exact hRl,hRt,setRow_heap _ w.heap.size _ _ _ (0,0) (setRow_heap _ w.heap.size _ _ _ (0,0) g1),rfl,rfl,rfl,?_,fun k hk _ => ?_⟩
 ·simp[World.setRow]
 ·exact(setRow_other _ w.heap.size k _ (by omega)).trans ((setRow_other _ w.heap.size k _ (by omega)).trans (ho1 k hk))
theorem zj5 {P:Program} (w:World) (t ty e:TypeId) (i:TypeInfo) (ht:P.underlying t=some (.slice e)) (hi:P.info? e=some i) (sz:Nat) (hs:i.size=sz) (g n c:Nat) (a:Addr) (m mc:Nat) (cur:Array Value) (t0:TypeId) (x:List Value)
 (hg:w.heap[g]? = some (.cells cur t0 (0,0))) (hx:x.length=m*sz) (hsrc:∀j v,x[j]? = some v→w.cell? (a.add j)=some v) (h1:∀v∈x,v.oneCell'=true) (hroom:n+m≤c) (hfit:n*sz+x.length≤cur.size) :
 (Builtin.append_ #[t,t] ty #[.slice (some ⟨g,0,none⟩) n c,.slice (some a) m mc]).run P w = .ok (.slice (some ⟨g,0,none⟩) (n+m) c) (w.setRow g (zad cur.toList (n*sz) x).toArray):=by
 have hst:=run_storeCells_at P g (n*sz) t0 x 0 cur w hg (by simpa using hfit) h1
 have hsp:cur.toList.take (n*sz+0)++x++cur.toList.drop (n*sz+0+x.length)=zad cur.toList (n*sz) x:=by unfold zad;simp
 rw[hsp]at hst
 subst hs
 have S:=Src.ofSlice (size:=i.size) w ht a m mc x hx hsrc h1
 simp[Builtin.append_,run_underlying ht,sizeOf,typeInfo,hi,S.len,hroom,S.cells,Addr.add_lit,hst]
theorem z6y (b n c vb vc:Nat) (cur:Array Value) (t0:TypeId) (x:List Value) (w:World) (hroom:n+1≤c) (hc63:c≤9223372036854775807)
 (hg:w.heap[b]? = some (.cells cur t0 (0,0))) (hcur:cur.size=c*6) (hx:x.length=6)
 (hvs:∀j v,x[j]? = some v→w.cell? ⟨vb,j,none⟩=some v) (h1v:∀v∈x,v.oneCell'=true) :
 Calls Tryz.prog 140 #[.slice (some ⟨b,0,none⟩) n c,.int .i64 n,.slice (some ⟨vb,0,none⟩) 1 vc] w fun e w' =>
  e = .returned (.slice (some ⟨b,0,none⟩) (n+1) c)∧w'=w.setRow b (zad cur.toList (n*6) x).toArray:=by
 obtain⟨i0,z,hi0,hz0,hzs,hzb,hzc⟩:=zi1
 have hr:∀ty,(Builtin.append_ #[70,70] ty #[.slice (some ⟨b,0,none⟩) n c,.slice (some ⟨vb,0,none⟩) 1 vc]).run Tryz.prog w=_:=fun ty =>
  zj5 w 70 ty 154 i0 Tryz.underlying70 hi0 6 hzs b n c ⟨vb,0,none⟩ 1 vc cur t0 x hg (by omega) (fun j v hj=>by rw[Addr.add_lit,Nat.zero_add];exact hvs j v hj) h1v hroom (by omega)
 go_enter Tryz.func140,Tryz.ntmps140
 go_wp2_with (at_builtin;refine Lib.wpList_append_run _ rfl _ _ _ _ rfl _ _ rfl rfl _ _ (hr _) ?_)
 all_goals(go_ret;exact⟨rfl,rfl⟩)
theorem zwa (base:Option Addr) (n c vb vc:Nat) (cs x:List Value) (w:World) (hnc:n≤c) (hroom:c<n+1) (hbig:(n+1)*64≤140737488355328)
 (hcs:cs.length=n*6) (hx:x.length=6) (hnil:base=none→n=0)
 (hcell:∀a,base=some a→∀j v,cs[j]? = some v→w.cell? (a.add j)=some v)
 (hvs:∀j v,x[j]? = some v→w.cell? ⟨vb,j,none⟩=some v) (h1v:∀v∈x,v.oneCell'=true) :
 Calls Tryz.prog 140 #[.slice base n c,.int .i64 n,.slice (some ⟨vb,0,none⟩) 1 vc] w fun e w' =>
  ∃G,e = .returned (.slice (some ⟨w.heap.size,0,none⟩) (n+1) G)∧n+1≤G∧G≤maxLen∧∃ROW:Array Value,w'=w.drew.alloc (.cells ((cs++x).toArray++ROW) 154)∧ROW.size=(G-(n+1))*6:=by
 obtain⟨i0,z,hi0,hz0,hzs,hzb,hzc⟩:=zi1
 have S:Src Tryz.prog i0.size 70 (.slice (some ⟨vb,0,none⟩) 1 vc) 1 x w:=by
  rw[hzs]
  exact Src.ofSlice w Tryz.underlying70 ⟨vb,0,none⟩ 1 vc x (by omega) (fun j v hj=>by rw[Addr.add_lit,Nat.zero_add];exact hvs j v hj) h1v
 have hold:(Builtin.firstCells i0.size n (.slice base n c)).run Tryz.prog w.drew = .ok cs.toArray w.drew:=by
  rw[hzs]
  cases base with
  | none =>
   have h0:=hnil rfl
   subst h0
   rw[List.length_eq_zero_iff.1 (by omega:cs.length=0)]
   exact run_firstCells_none w.drew 6 0 0 c
  | some a=>exact run_firstCells_some w.drew 6 n a n c cs hcs (fun j v hj=>hcell a rfl j v hj)
 have hGn:n+1≤grownCap w (n+1) c 154:=grownCap_ge w _ _ _
 have hGm:grownCap w (n+1) c 154≤maxLen:=grownCap_le_maxLen w (n+1) c 154 (by unfold maxLen;omega)
 have hzz:(Builtin.zeroCells z.cells (grownCap w (n+1) c 154-(n+1))).size=(grownCap w (n+1) c 154-(n+1))*6:=by rw[size_zeroCells,hzc]
 have hr:∀ty,(Builtin.append_ #[70,70] ty #[.slice base n c,.slice (some ⟨vb,0,none⟩) 1 vc]).run Tryz.prog w = .ok (.slice (some ⟨w.heap.size,0,none⟩) (n+1) (grownCap w (n+1) c 154)) (w.drew.alloc (.cells ((cs++x).toArray++Builtin.zeroCells z.cells (grownCap w (n+1) c 154-(n+1))) 154)):=fun ty =>
  run_append_grow_src w 70 70 ty 154 i0 z Tryz.underlying70 hi0 hz0 base n c cs hold _ 1 x S hroom (by omega) (by rw[hzb];exact growslice_fits hroom hbig)
 obtain⟨G,hG⟩:∃G,G=grownCap w (n+1) c 154:=⟨_,rfl⟩
 rw[←hG]at hr hGn hGm hzz
 obtain⟨ROW,hROW⟩:∃ROW,ROW=Builtin.zeroCells z.cells (G-(n+1)):=⟨_,rfl⟩
 rw[←hROW]at hr hzz
 have H:=PLift.up (And.intro hGn (And.intro hGm hzz))
 clear hG hROW hGn hGm hzz hold S
 go_enter Tryz.func140,Tryz.ntmps140
 cases base with
 | none =>
  have h0:=hnil rfl
  subst h0
  go_wp2_with (at_builtin;refine Lib.wpList_append_run _ rfl _ _ _ _ rfl _ _ rfl rfl _ _ (hr _) ?_)
  all_goals(go_ret;exact⟨G,rfl,H.down.1,H.down.2.1,ROW,rfl,H.down.2.2⟩)
 | some a =>
  obtain⟨ab,ao,asp⟩:=a
  go_wp2_with (at_builtin;refine Lib.wpList_append_run _ rfl _ _ _ _ rfl _ _ rfl rfl _ _ (hr _) ?_)
  all_goals(go_ret;exact⟨G,rfl,H.down.1,H.down.2.1,ROW,rfl,H.down.2.2⟩)
def z4b (w:World) (own:Option Nat) (n:Nat) (vals:List Value) (v':Value) (w':World):Prop :=
 w'.ownsRow 0 154 6 v' n vals∧w.grownBy w' own∧(v'.ownBlock=own∨∀q,v'.ownBlock=some q→w.heap.size≤q)
theorem zgj {α : Type} (A B:List α) (k:Nat) (h:A.length=k):(A++B).take k=A:=by subst h;exact List.take_left
theorem z7h {α : Type} (A B:List α) (k:Nat) (h:A.length=k):(A++B).drop k=B:=by subst h;exact List.drop_left
theorem z2g (w:World) (v0:Value) (n:Nat) (cs x:List Value) (hown:w.ownsRow 0 154 6 v0 n cs) (h1c:∀v∈cs,v.oneCell'=true) (i:Nat) (hi:i≤n) (hsm:n≤1000000) (vb c1:Nat) (cur1:Array Value) (T1:TypeId) (hv:w.heap[vb]? = some (.cells cur1 T1 (0,0))) (hx:x.length=6) (hxc:∀(j:Nat) (v:Value),x[j]? = some v→cur1[j]? = some v) (hx1:∀v∈x,v.oneCell'=true) (hne:v0.ownBlock≠some vb) :
 Calls Tryz.prog 140 #[v0,.int .i64 i,.slice (some ⟨vb,0,none⟩) 1 c1] w fun e w'=>∃v',e = .returned v'∧z4b w v0.ownBlock (n+1) (cs.take (i*6)++x++cs.drop (i*6)) v' w':=by
 have hvs:∀j v,x[j]? = some v→w.cell? ⟨vb,j,none⟩=some v:=fun j v hj=>by
  have:=hxc j v hj
  simp[World.cell?,hv,this]
 have hvw:vb<w.heap.size:=(Array.getElem?_eq_some_iff.1 hv).1
 have hlcs:=hown.1
 have hlen:(cs.take (i*6)++x++cs.drop (i*6)).length=(n+1)*6:=by
  simp only[List.length_append,List.length_take,List.length_drop];omega
 rcases hown.2 with ⟨rfl,hn⟩|⟨b,cap,cur,rfl,_,hg,hnc,hcm,hcs,htake⟩
 ·subst hn
  obtain rfl:i=0:=by omega
  have hc0:cs = []:=List.eq_nil_of_length_eq_zero (by omega)
  subst hc0
  refine(zwa none 0 0 vb c1 [] x w (by omega) (by omega) (by omega) rfl hx (fun _=>rfl) (by simp) hvs hx1).mono ?_
  rintro e w' ⟨G,rfl,g1,g2,ROW,rfl,g3⟩
  refine⟨_,rfl,⟨hlen,.inr ⟨w.heap.size,G,_,rfl,Nat.zero_le _,heap_alloc_new w.drew _,g1,g2,by simp[g3,hx];omega,?_⟩⟩,⟨rfl,rfl,rfl,by show w.heap.size≤(w.heap.push _).size;simp,fun k hk _=>heap_alloc_old w.drew _ hk⟩,.inr fun q hq=>by simp[Value.ownBlock]at hq;omega⟩
  simp only[Array.toList_append,List.nil_append]
  rw[zgj _ _ _ (by simp[hx])]
  simp
 ·have hbw:b<w.heap.size:=(Array.getElem?_eq_some_iff.1 hg).1
  have hcell:∀j v,cs[j]? = some v→w.cell? ⟨b,j,none⟩=some v:=by
   intro j v hj
   have:=hown.cells (g:=b) rfl j v hj
   rwa [Addr.add_lit,Nat.zero_add]at this
  have hcurl:cur.toList.length=cap*6:=by rw[Array.length_toList];exact hcs
  have htk:∀k,k≤n*6→cur.toList.take k=cs.take k:=fun k hk=>by rw[←htake,List.take_take,Nat.min_eq_left hk]
  have hti:(cs.take (i*6)).length=i*6:=by rw[List.length_take];omega
  have hdl:(cs.drop (i*6)).length=(n-i)*6:=by rw[List.length_drop];omega
  have inplace:∀(W:World) (L:List Value),L.length=cap*6→L.take ((n+1)*6)=cs.take (i*6)++x++cs.drop (i*6)→n+1≤cap→W.heap[b]? = some (.cells L.toArray 154 (0,0))→W.os=w.os→W.tape=w.tape→W.output=w.output→W.heap.size=w.heap.size→(∀k,k≠b→W.heap[k]? = w.heap[k]?)→z4b w (some b) (n+1) (cs.take (i*6)++x++cs.drop (i*6)) (.slice (some ⟨b,0,none⟩) (n+1) cap) W:=by
   intro W L e1 e2 e3 e4 e5 e6 e7 e8 e9
   exact⟨⟨hlen,.inr ⟨b,cap,L.toArray,rfl,Nat.zero_le _,e4,e3,hcm,by simpa using e1,by simpa using e2⟩⟩,⟨e5,e6,e7,by omega,fun k _ hk=>e9 k fun h=>hk (by rw[h])⟩,.inl rfl⟩
  by_cases hroom:n+1≤cap
  ·by_cases hin:i<n
   ·have hvb:vb≠b:=fun h=>hne (by rw[h];rfl)
    have nofv:∀j,w.frozen? ⟨vb,j,none⟩=false:=by
     intro j
     simp only[World.frozen?,hv]
     simp
    refine(z2f b n cap i vb c1 cur _ cs x w hin hroom (by unfold maxLen at hcm;omega) hvb hg hlcs hcs hx hcell hvs h1c hx1 T1 cur1.size (by simp[World.shape?,hv]) (nofv _) (nofv _)).mono ?_
    rintro e w' ⟨rfl,rfl⟩
    refine⟨_,rfl,?_⟩
    have l1:(zad cur.toList ((i+1)*6) (cs.drop (i*6))).length=cap*6:=by rw[zat _ _ _ (by rw[hdl,hcurl];omega),hcurl]
    refine inplace _ (zad (zad cur.toList ((i+1)*6) (cs.drop (i*6))) (i*6) x) (by rw[zat _ _ _ (by rw[hx,l1];omega),l1]) ?_ hroom (setRow_heap _ b _ _ _ (0,0) (setRow_heap w.drew b _ _ _ (0,0) hg)) rfl rfl rfl (by simp[World.setRow]) fun k hk=>(setRow_other _ b k _ hk).trans (setRow_other w.drew b k _ hk)
    have s1:(zad cur.toList ((i+1)*6) (cs.drop (i*6))).take (i*6)=cs.take (i*6):=by
     unfold zad
     rw[List.take_append_of_le_length (by rw[List.length_take,hcurl];omega),List.take_take,Nat.min_eq_left (by omega),htk _ (by omega)]
    have s2:(zad cur.toList ((i+1)*6) (cs.drop (i*6))).drop (i*6+x.length)=cs.drop (i*6)++cur.toList.drop ((i+1)*6+(cs.drop (i*6)).length):=by
     unfold zad
     exact z7h _ _ _ (by rw[List.length_take,hcurl,hx];omega)
    show (List.take (i*6) (zad cur.toList ((i+1)*6) (cs.drop (i*6)))++(x++List.drop (i*6+x.length) (zad cur.toList ((i+1)*6) (cs.drop (i*6))))).take _=_
    rw[s1,s2,←List.append_assoc,←List.append_assoc]
    exact zgj _ _ _ hlen
   ·obtain rfl:i=n:=by omega
    have hd0:cs.drop (i*6) = []:=List.drop_eq_nil_of_le (by omega)
    have ht0:cs.take (i*6)=cs:=List.take_of_length_le (by omega)
    refine(z6y b i cap vb c1 cur _ x w hroom (by unfold maxLen at hcm;omega) hg hcs hx hvs hx1).mono ?_
    rintro e w' ⟨rfl,rfl⟩
    refine⟨_,rfl,?_⟩
    refine inplace _ (zad cur.toList (i*6) x) (by rw[zat _ _ _ (by rw[hx,hcurl];omega),hcurl]) ?_ hroom (setRow_heap w b _ _ _ (0,0) hg) rfl rfl rfl (by simp[World.setRow]) fun k hk=>setRow_other w b k _ hk
    unfold zad
    rw[htk _ (by omega),←List.append_assoc,hd0,List.append_nil]
    exact zgj _ _ _ (by simp only[List.length_append];omega)
  ·by_cases hin:i<n
   ·refine(z6z b n cap i vb c1 cs x w hin hnc (by omega) (by omega) hlcs hx hbw hvw hcell hvs h1c hx1).mono ?_
    rintro e w' ⟨G,ROW,rfl,g1,g2,g3,g4,g5,g6⟩
    have l1:(zad ROW (i*6) x).length=G*6:=by rw[zat _ _ _ (by rw[hx,g3];omega),g3]
    refine⟨_,rfl,⟨hlen,.inr ⟨w.heap.size,G,_,rfl,Nat.zero_le _,g5,g1,g2,by simp only[List.size_toArray];rw[zat _ _ _ (by rw[hdl,l1];omega),l1],?_⟩⟩,⟨g6.os,g6.tape,g6.output,g6.size,fun k hk _=>g6.block k hk (by simp)⟩,.inr fun q hq=>by simp[Value.ownBlock]at hq;omega⟩
    have s1:(zad ROW (i*6) x).take ((i+1)*6)=cs.take (i*6)++x:=by
     unfold zad
     rw[g4,←List.append_assoc]
     exact zgj _ _ _ (by simp only[List.length_append];omega)
    show (List.take ((i+1)*6) (zad ROW (i*6) x)++(cs.drop (i*6)++List.drop ((i+1)*6+(cs.drop (i*6)).length) (zad ROW (i*6) x))).take _=_
    rw[s1,←List.append_assoc]
    exact zgj _ _ _ hlen
   ·obtain rfl:i=n:=by omega
    have hd0:cs.drop (i*6) = []:=List.drop_eq_nil_of_le (by omega)
    have ht0:cs.take (i*6)=cs:=List.take_of_length_le (by omega)
    refine(zwa (some ⟨b,0,none⟩) i cap vb c1 cs x w hnc (by omega) (by omega) hlcs hx (by simp) (fun a ha j v hj=>by cases ha;rw[Addr.add_lit,Nat.zero_add];exact hcell j v hj) hvs hx1).mono ?_
    rintro e w' ⟨G,rfl,g1,g2,ROW,rfl,g3⟩
    refine⟨_,rfl,⟨hlen,.inr ⟨w.heap.size,G,_,rfl,Nat.zero_le _,heap_alloc_new w.drew _,g1,g2,by simp[g3,hx,hlcs];omega,?_⟩⟩,⟨rfl,rfl,rfl,by show w.heap.size≤(w.heap.push _).size;simp,fun k hk _=>heap_alloc_old w.drew _ hk⟩,.inr fun q hq=>by simp[Value.ownBlock]at hq;omega⟩
    rw[hd0,ht0,List.append_nil]
    simp only[Array.toList_append]
    exact zgj _ _ _ (by simp only[List.length_append];omega)
end Go.Proofs.YtmjbgbmegbkmhaaGreat
namespace Go.Proofs.YtmjbgbmegbkmhaaGreat
set_option linter.all false
open Go.RowKit
set_option maxRecDepth 100000
set_option maxHeartbeats 2000000
theorem z85 {α : Type} (l:List α) (a : α) (i j:Nat) (hi:i≤l.length):(l.take i++a::l.drop i)[j]? = if j<i then l[j]? else if j=i then some a else l[j-1]? := by
 have hl:(l.take i).length=i:=by rw[List.length_take];omega
 rcases Nat.lt_trichotomy j i with h|h|h
 ·rw[if_pos h,List.getElem?_append_left (by omega),List.getElem?_take,if_pos h]
 ·subst h
  rw[if_neg (by omega),if_pos rfl,List.getElem?_append_right (by omega),hl,Nat.sub_self];rfl
 ·rw[if_neg (by omega),if_neg (by omega),List.getElem?_append_right (by omega),hl,show j-i=(j-1-i)+1 by omega,List.getElem?_cons_succ,List.getElem?_drop]
  congr 1;omega
theorem yg6 {α : Type} (l x:List α) (s i j t:Nat) (hx:x.length=s) (hi:i*s≤l.length) (ht:t<s):(l.take (i*s)++x++l.drop (i*s))[j*s+t]? = if j<i then l[j*s+t]? else if j=i then x[t]? else l[(j-1)*s+t]? := by
 have hl:(l.take (i*s)).length=i*s:=by rw[List.length_take];omega
 rcases Nat.lt_trichotomy j i with h|h|h
 ·have:(j+1)*s≤i*s:=Nat.mul_le_mul_right s h
  rw[Nat.add_mul]at this
  rw[if_pos h,List.append_assoc,List.getElem?_append_left (by omega),List.getElem?_take,if_pos (by omega)]
 ·subst h
  rw[if_neg (by omega),if_pos rfl,List.getElem?_append_left (by rw[List.length_append];omega),List.getElem?_append_right (by omega),hl,Nat.add_sub_cancel_left]
 ·have h1:(i+1)*s≤j*s:=Nat.mul_le_mul_right s h
  have h2:(j-1)*s+s=j*s:=by
   rw[show j=(j-1)+1 by omega,Nat.add_mul];simp
  rw[Nat.add_mul]at h1
  rw[if_neg (by omega),if_neg (by omega),List.getElem?_append_right (by rw[List.length_append];omega),List.length_append,hl,hx,List.getElem?_drop]
  congr 1;omega
theorem yff (hent:zgi Tryz.prog 140) (xs:List (List PV)) (ys:List (List (List PV))) (i:Nat) (hi:i≤xs.length) (hsm:xs.length≤1000000) (z z':List PV) (hz6:z.length=6) (hz2:z[2]? = some (.v (.slice none 0 0))) (hz6':z'.length=6) (hzz:∀t:Nat,t≠2→z'[t]? = z[t]?) :
 Spec Tryz.prog 140 [.own 0,I .i64 i,.own 1] [.nst 154 6 2 210 3 xs ys none,.row 154 6 [z]] (.own 2) [.dead,.dead,.nst 154 6 2 210 3 (xs.take i++z'::xs.drop i) (ys.take i ++ []::ys.drop i) none]:=by
 refine⟨hent,by simp,fun w F β vs M hv => ?_⟩
 simp only[RelL]at hv
 obtain⟨v0,_,rfl,hv0,u1,_,rfl,hu1,v1,_,rfl,hv1,rfl⟩:=hv
 obtain⟨rfl,_⟩:=relC.1 hu1
 obtain⟨b0,hb0,H0⟩:=M.ch 0 (by simp[nth])
 obtain⟨b1,hb1,H1⟩:=M.ch 1 (by simp[nth])
 simp only[RelA]at hv0 hv1
 obtain rfl:=hv0.2.2 b0 hb0
 obtain rfl:=hv1.2.2 b1 hb1
 change ChOk _ w F β b0 (.nst 154 6 2 210 3 xs ys none)at H0
 change ChOk _ w F β b1 (.row 154 6 [z])at H1
 obtain⟨_,_,_,H1⟩:=H1
 obtain⟨⟨hsz0,hin0⟩,hn0,hyl,_,hxl,H0⟩:=H0
 rcases H1 with ⟨_,h,_⟩|⟨g1,cap1,cur1,h5,h6,h7,h8,h9,h10,hE⟩
 ·simp at h
 simp only[List.length_cons,List.length_nil,Nat.zero_add]at h6 h8
 -- the cells of what is put in
 obtain⟨_,hC⟩:=hE.at 0 z rfl
 have hx1:∀t p,z[t]? = some p→∃u,cur1[t]? = some u∧RelP w F p u:=fun t p hp=>by
  obtain⟨u,hu,hr⟩:=hC.at t p hp
  refine⟨u,?_,hr⟩
  simpa[World.cell?,h7]using hu
 have hx6:(cur1.toList.take 6).length=6:=by rw[List.length_take,Array.length_toList];omega
 have hxt:∀t,t<6→(cur1.toList.take 6)[t]? = cur1[t]? := fun t ht=>by rw[List.getElem?_take,if_pos ht,Array.getElem?_toList]
 -- the row's cells
 obtain⟨cs,hown,blk0,hcell,hcl⟩:∃cs,w.ownsRow 0 154 6 b0.v xs.length cs∧b0.v.ownBlock=b0.b∧(∀g,b0.b=some g→∀j u,cs[j]? = some u↔(j<xs.length*6∧w.cell? ⟨g,j,none⟩=some u))∧(b0.b=none→xs = []):=by
  rcases H0 with ⟨k1,k2,k3,_⟩|⟨g,cap,cur,k1,k2,k3,k4,k5,k6,k7,k8⟩
  ·subst k2
   refine⟨[],by rw[k3];exact World.ownsRow_nil w 0 _ 6,by rw[k3,k1];rfl,fun g hg=>by rw[k1]at hg;simp at hg,fun _=>rfl⟩
  ·refine⟨cur.toList.take (xs.length*6),?_,by rw[k2,k1];rfl,fun g' hg' j u => ?_,fun hn=>by rw[k1]at hn;simp at hn⟩
   ·rw[k2]
    have hle:xs.length*6≤cap*6:=Nat.mul_le_mul_right 6 k4
    have hcl:cur.toList.length=cap*6:=by rw[Array.length_toList];exact k6
    exact⟨by rw[List.length_take,hcl];omega,.inr ⟨g,cap,cur,rfl,Nat.zero_le _,k3,k4,k5,k6,rfl⟩⟩
   ·rw[k1]at hg'
    cases hg'
    rw[List.getElem?_take]
    constructor
    ·intro h
     split at h
     ·rename_i hj
      rw[Array.getElem?_toList]at h
      exact⟨hj,by simp[World.cell?,k3,h]⟩
     ·simp at h
    ·rintro⟨hj,h⟩
     rw[if_pos hj,Array.getElem?_toList]
     simpa[World.cell?,k3]using h
 -- each cell of the row: what is known of it
 have hold:∀j x y,xs[j]? = some x→ys[j]? = some y→∀t p,x[t]? = some p→∃u,cs[j*6+t]? = some u∧NCell (· < 2) w F β b0.bs 2 210 3 p y none t u:=by
  intro j x y hx hy t p hp
  have hj:j<xs.length:=(List.getElem?_eq_some_iff.1 hx).1
  rcases H0 with ⟨k1,k2,k3,_⟩|⟨g,cap,cur,k1,k2,k3,k4,k5,k6,k7,k8⟩
  ·rw[k2]at hj;simp at hj
  ·obtain⟨u,hu,hn⟩:=k8.cells j x y hx hy t p hp
   have ht:t<6:=by
    have h1:=(List.getElem?_eq_some_iff.1 hp).1
    have h2:=hxl x (List.mem_of_getElem? hx)
    omega
   exact⟨u,(hcell g k1 _ u).2 ⟨by omega,hu⟩,hn⟩
 have hinj:∀j j' b o o' n n' k k',cs[j*6+2]? = some (.slice (some ⟨b,o,none⟩) n k)→cs[j'*6+2]? = some (.slice (some ⟨b,o',none⟩) n' k')→j=j':=by
  intro j j' b o o' n n' k k' h1 h2
  rcases H0 with ⟨k1,k2,k3,_⟩|⟨g,cap,cur,k1,k2,k3,k4,k5,k6,k7,k8⟩
  ·have:=hown.1
   rw[k2]at this
   have hc0:cs = []:=List.eq_nil_of_length_eq_zero (by simpa using this)
   rw[hc0]at h1
   simp at h1
  ·obtain⟨a1,a2⟩:=(hcell g k1 _ _).1 h1
   obtain⟨c1,c2⟩:=(hcell g k1 _ _).1 h2
   exact k8.inj j j' b o o' n n' k k' (by omega) (by omega) rfl rfl a2 c2
 have h1c:∀v∈cs,v.oneCell'=true:=by
  intro v hv
  obtain⟨q,hq⟩:=List.getElem?_of_mem hv
  have hql:q<xs.length*6:=by have:=(List.getElem?_eq_some_iff.1 hq).1;rw[hown.1]at this;exact this
  have hj:q/6<xs.length:=by omega
  have hjy:q/6<ys.length:=by omega
  have hxlen:=hxl _ (List.getElem_mem hj)
  obtain⟨u,hu,hn⟩:=hold (q/6) _ _ (List.getElem?_eq_getElem hj) (List.getElem?_eq_getElem hjy) (q % 6) _ (List.getElem?_eq_getElem (by rw[hxlen];omega))
  rw[show q/6*6+q % 6=q by omega,hq]at hu
  cases hu
  unfold NCell at hn
  split at hn
  ·exact hn.one
  ·exact hn.one
 have hne:b0.v.ownBlock≠some g1:=fun h=>absurd (M.dis 0 1 b0 b1 g1 hb0 hb1 (.inl (by rw[←blk0];exact h)) (.inl h5)) (by decide)
 have hbs:∀q,q∈b0.bs→b0.b≠some q∧q<w.heap.size∧¬F q:=fun q hq=>by
  have:=M.off 0 b0 q hb0 (.inr hq)
  refine⟨fun h => ?_,this.2.1,this.1⟩
  rcases H0 with ⟨k1,k2,k3,_⟩|⟨g,cap,cur,k1,k2,k3,k4,k5,k6,k7,k8⟩
  ·rw[k1]at h;simp at h
  ·rw[k1]at h;cases h;exact k7 hq
 have hC:=z2g w b0.v xs.length cs (cur1.toList.take 6) hown h1c i hi hsm g1 cap1 cur1 _ h7 hx6 (fun j v hj=>by
  have:j<6:=by have:=(List.getElem?_eq_some_iff.1 hj).1;omega
  rw[hxt j this]at hj;exact hj) (fun v hv=>by
  obtain⟨q,hq⟩:=List.getElem?_of_mem hv
  have hq6:q<6:=by have:=(List.getElem?_eq_some_iff.1 hq).1;omega
  rw[hxt q hq6]at hq
  obtain⟨u,hu,hr⟩:=hx1 q _ (List.getElem?_eq_getElem (by omega:q<z.length))
  rw[hu]at hq;cases hq;exact hr.one) hne
 rw[h6]
 refine hC.mono ?_
 rintro en w' ⟨v',rfl,hown',hgr,hob⟩
 have hinn:∀q,q∈b0.bs→w'.heap[q]? = w.heap[q]? := fun q hq=>hgr.block q (hbs q hq).2.1 (fun h=>(hbs q hq).1 (by rw[←blk0];exact h.symm))
 let bd':Bind:=⟨v',v'.ownBlock,xs.length+1,6,b0.bs⟩
 have hvlt:∀q,v'.ownBlock=some q→q<w'.heap.size∧(w.heap.size≤q∨b0.b=some q):=by
  intro q hq
  refine⟨(hown'.lt q hq).2,?_⟩
  rcases hob with h|h
  ·exact .inr (by rw[←blk0,←h];exact hq)
  ·exact .inl (h q hq)
 have oth:∀j,¬(j=2∨j=0∨j=1)→¬2=j∧¬0=j∧¬1=j:=fun j h=>⟨fun e=>h (.inl e.symm),fun e=>h (.inr (.inl e.symm)),fun e=>h (.inr (.inr e.symm))⟩
 have hxs':(xs.take i++z'::xs.drop i).length=xs.length+1:=by simp;omega
 have hys':(ys.take i ++ []::ys.drop i).length=xs.length+1:=by simp;omega
 obtain⟨S1,S2⟩:=M.step (w':=w') (h':=nth [.dead,.dead,.nst 154 6 2 210 3 (xs.take i++z'::xs.drop i) (ys.take i ++ []::ys.drop i) none]) (β':=zaq (zaq (zaq β 1 none) 0 none) 2 (some bd')) (F':=F) (U':=(· < 3)) (fun j=>j=2∨j=0∨j=1)
  (fun j hj=>by obtain⟨h1,h2,h3⟩:=oth j hj;simp only[zaq,if_neg h1,if_neg h2,if_neg h3])
  (fun j hj=>by
   match j,hj with
   | 0,hj=>exact(hj (.inr (.inl rfl))).elim
   | 1,hj=>exact(hj (.inr (.inr rfl))).elim
   | 2,hj=>exact(hj (.inl rfl)).elim
   | j+3,_=>simp[nth])
  hgr.os hgr.tape hgr.output hgr.size
  (fun q hq hn=>hgr.block q hq fun he=>hn 0 b0 (.inr (.inl rfl)) hb0 (.inl (by rw[←blk0];exact he.symm)))
  (fun j hj=>by simp at hj;omega) (fun b hb=>hb) (fun b hb=>⟨Nat.lt_of_lt_of_le (M.fin b hb) hgr.size,.inl hb⟩)
  (fun j bd hj hu hb=>by
   rcases hj with rfl|rfl|rfl
   ·simp at hu
   ·simp[zaq]at hb
   ·simp[zaq]at hb)
  (fun j bd hj hb=>by
   rcases hj with rfl|rfl|rfl
   ·simp only[zaq,if_true,Option.some.injEq]at hb
    subst hb
    refine⟨by omega,fun q hq => ?_⟩
    rcases hq with hq|hq
    ·obtain⟨h1,h2⟩:=hvlt q hq
     refine⟨h1,?_,?_⟩
     ·rcases h2 with h2|h2
      ·intro hf;have:=M.fin q hf;omega
      ·exact(M.off 0 b0 q hb0 (.inl h2)).1
     ·rcases h2 with h2|h2
      ·exact .inl h2
      ·exact .inr ⟨0,b0,.inr (.inl rfl),hb0,.inl h2⟩
    ·obtain⟨a1,a2,a3⟩:=hbs q hq
     exact⟨Nat.lt_of_lt_of_le a2 hgr.size,a3,.inr ⟨0,b0,.inr (.inl rfl),hb0,.inr hq⟩⟩
   ·simp[zaq]at hb
   ·simp[zaq]at hb)
  (fun j j' bj bj' q hj hj' hbj hbj' _ _=>by
   have only:∀j bj,(j=2∨j=0∨j=1)→zaq (zaq (zaq β 1 none) 0 none) 2 (some bd') j=some bj→j=2:=by
    intro j bj hj hb
    rcases hj with rfl|rfl|rfl
    ·rfl
    ·simp[zaq]at hb
    ·simp[zaq]at hb
   rw[only j bj hj hbj,only j' bj' hj' hbj'])
  (fun E j hj hdd=>by
   rcases hj with rfl|rfl|rfl
   ·refine⟨bd',by simp[zaq],?_⟩
    change ChOk _ w' F _ bd' (.nst 154 6 2 210 3 (xs.take i++z'::xs.drop i) (ys.take i ++ []::ys.drop i) none)
    refine⟨⟨rfl,fun q hq => ?_⟩,by rw[hxs'],by rw[hxs',hys'],by decide,fun c hc => ?_,?_⟩
    ·obtain⟨cur,hc⟩:=hin0 q hq
     exact⟨cur,(hinn q hq).trans hc⟩
    ·rcases List.mem_append.1 hc with hc|hc
     ·exact hxl c (List.mem_of_mem_take hc)
     ·rcases List.mem_cons.1 hc with rfl|hc
      ·exact hz6'
      ·exact hxl c (List.mem_of_mem_drop hc)
    rcases hown'.2 with ⟨_,hn0⟩|⟨g,cap,cur,hv0,_,hg,hnc,hcm,hcs,htake⟩
    ·omega
    have hvc:∀j t,j<xs.length+1→t<6→w'.cell? ⟨g,j*6+t,none⟩=if j<i then cs[j*6+t]? else if j=i then (cur1.toList.take 6)[t]? else cs[(j-1)*6+t]? := by
     intro j t hj ht
     have hlt:j*6+t<(xs.length+1)*6:=by omega
     have e1:(cur.toList.take ((xs.length+1)*6))[j*6+t]? = cur[j*6+t]? := by rw[List.getElem?_take,if_pos hlt,Array.getElem?_toList]
     rw[htake,yg6 cs (cur1.toList.take 6) 6 i j t hx6 (by rw[hown.1];exact Nat.mul_le_mul_right 6 hi) ht]at e1
     rw[e1]
     simp[World.cell?,hg]
    have wide:∀p y t u,NCell (· < 2) w F β b0.bs 2 210 3 p y none t u→NCell (· < 3) w' F (zaq (zaq (zaq β 1 none) 0 none) 2 (some bd')) b0.bs 2 210 3 p y none t u:=by
     intro p y t u h
     unfold NCell at h ⊢
     split
     ·rename_i ht
      rw[if_pos ht]at h
      exact h.mono E.f hinn
     ·rename_i ht
      rw[if_neg ht]at h
      exact RelP.mono E.f _ _ h
    refine .inr ⟨g,cap,cur,by simp[bd',hv0,Value.ownBlock],by rw[hxs'];exact hv0,hg,by rw[hxs'];exact hnc,hcm,hcs,?_,?_,?_,fun i id ho=>by simp at ho⟩
    ·intro hgb
     rcases (hvlt g (by rw[hv0];rfl)).2 with h|h
     ·have:=(hbs g hgb).2.1;omega
     ·exact(hbs g hgb).1 h
    ·intro j x y hx hy t p hp
     have hj:j<xs.length+1:=by rw[←hxs'];exact(List.getElem?_eq_some_iff.1 hx).1
     have ht:t<6:=by
      have h1:=(List.getElem?_eq_some_iff.1 hp).1
      have hm:x∈xs.take i++z'::xs.drop i:=List.mem_of_getElem? hx
      have h2:x.length=6:=by
       rcases List.mem_append.1 hm with hm|hm
       ·exact hxl x (List.mem_of_mem_take hm)
       ·rcases List.mem_cons.1 hm with rfl|hm
        ·exact hz6'
        ·exact hxl x (List.mem_of_mem_drop hm)
      omega
     rw[hvc j t hj ht]
     rw[z85 xs z' i j hi]at hx
     rw[z85 ys [] i j (by omega)]at hy
     by_cases c1:j<i
     ·rw[if_pos c1]at hx hy ⊢
      obtain⟨u,hu,hn⟩:=hold j x y hx hy t p hp
      exact⟨u,hu,wide _ _ _ _ hn⟩
     ·rw[if_neg c1]at hx hy ⊢
      by_cases c2:j=i
      ·rw[if_pos c2]at hx hy ⊢
       cases hx;cases hy
       by_cases ht2:t=2
       ·subst ht2
        obtain⟨u,hu,hr⟩:=hx1 2 _ hz2
        refine⟨u,by rw[hxt 2 ht];exact hu,?_⟩
        unfold NCell
        rw[if_pos rfl]
        simp only[RelP]at hr
        exact .inl ⟨hr.1,rfl⟩
       ·rw[hzz t ht2]at hp
        obtain⟨u,hu,hr⟩:=hx1 t p hp
        refine⟨u,by rw[hxt t ht];exact hu,?_⟩
        unfold NCell
        rw[if_neg ht2]
        exact RelP.mono E.f _ _ hr
      ·rw[if_neg c2]at hx hy ⊢
       obtain⟨u,hu,hn⟩:=hold (j-1) x y hx hy t p hp
       exact⟨u,hu,wide _ _ _ _ hn⟩
    ·intro j j' b o o' n n' k k' hj hj' _ _ e1 e2
     rw[hxs']at hj hj'
     have znil:(cur1.toList.take 6)[2]? = some (.slice none 0 0):=by
      obtain⟨u,hu,hr⟩:=hx1 2 _ hz2
      simp only[RelP]at hr
      rw[hxt 2 (by decide),hu,hr.1]
     rw[hvc j 2 hj (by decide)]at e1
     rw[hvc j' 2 hj' (by decide)]at e2
     by_cases c1:j<i
     ·rw[if_pos c1]at e1
      by_cases d1:j'<i
      ·rw[if_pos d1]at e2
       exact hinj j j' b o o' n n' k k' e1 e2
      ·rw[if_neg d1]at e2
       by_cases d2:j'=i
       ·rw[if_pos d2,znil]at e2;simp at e2
       ·rw[if_neg d2]at e2
        have:=hinj j (j'-1) b o o' n n' k k' e1 e2
        omega
     ·rw[if_neg c1]at e1
      by_cases c2:j=i
      ·rw[if_pos c2,znil]at e1;simp at e1
      ·rw[if_neg c2]at e1
       by_cases d1:j'<i
       ·rw[if_pos d1]at e2
        have:=hinj (j-1) j' b o o' n n' k k' e1 e2
        omega
       ·rw[if_neg d1]at e2
        by_cases d2:j'=i
        ·rw[if_pos d2,znil]at e2;simp at e2
        ·rw[if_neg d2]at e2
         have:=hinj (j-1) (j'-1) b o o' n n' k k' e1 e2
         omega
   ·exact(hdd (by simp[nth])).elim
   ·exact(hdd (by simp[nth])).elim)
 refine⟨v',F,_,rfl,S1,?_,fun _ h=>h,fun _ h => .inl h,fun j bd hj hb => ?_⟩
 ·simp only[RelA]
  refine⟨by simp,?_,fun bd hb => ?_⟩
  ·rcases hown'.2 with ⟨hv0,_⟩|⟨g,cap,cur,hv0,_⟩<;>rw[hv0]<;>rfl
  ·simp only[zaq,if_true,Option.some.injEq]at hb
   subst hb;rfl
 ·have hj':j=0∨j=1:=by simp at hj;omega
  rcases hj' with rfl|rfl<;>simp[zaq]at hb
end Go.Proofs.YtmjbgbmegbkmhaaGreat
namespace Go.Proofs.YtmjbgbmegbkmhaaGreat
set_option linter.all false
open Go.RowKit
theorem To.moveN {k:Nat} {s:St} (bid j id e sz c e2 sz2 tt:Nat) (cs:List AV) (xs:List (List PV)) (ys:List (List (List PV))) (hc:zaf s.h bid = .blk tt cs) (hj:cs[j]? = some (.own id)) (hr:zaf s.h id = .nst e sz c e2 sz2 xs ys none) :
 ToK k s ⟨s.t,(s.n,.nst e sz c e2 sz2 xs ys none)::(id,.dead)::(bid,.blk tt (cs.set j (.own s.n)))::s.h,s.n+1⟩:=by
 intro H F β a w hk C
 obtain⟨bd0,hb1,hb2⟩:=C.m.ch bid (by rw[hc];simp)
 obtain⟨bd1,hr1,hr2⟩:=C.m.ch id (by rw[hr];simp)
 have hbn:bid≠s.n:=fun h=>absurd (C.m.used _ _ hb1) (by rw[h];exact Nat.lt_irrefl _)
 have hin:id≠s.n:=fun h=>absurd (C.m.used _ _ hr1) (by rw[h];exact Nat.lt_irrefl _)
 have hbi:bid≠id:=fun h=>by rw[h,hr]at hc;simp at hc
 have hb2':=hb2
 rw[hc]at hb2'
 obtain⟨q1,q2,g0,vs,q3,q4,q5,q6,q7⟩:=hb2'
 obtain⟨u,hu,hv⟩:=q6.at j _ hj
 simp only[RelA]at hv
 obtain⟨_,hone,hv⟩:=hv
 obtain rfl:=hv bd1 hr1
 obtain⟨M,E⟩:=C.m.step (w':=w) (h':=zaf ((s.n,.nst e sz c e2 sz2 xs ys none)::(id,.dead)::(bid,.blk tt (cs.set j (.own s.n)))::s.h)) (β':=zaq (zaq β id none) s.n (some bd1)) (F':=F) (U':=(· < s.n+1)) (fun i=>i=s.n∨i=id∨i=bid)
  (fun i hi=>by simp only[not_or]at hi;simp[zaq,Ne.symm hi.1,Ne.symm hi.2.1]) (fun i hi=>by simp only[not_or]at hi;simp[zaf,Ne.symm hi.1,Ne.symm hi.2.1,Ne.symm hi.2.2]) rfl rfl rfl (Nat.le_refl _) (fun _ _ _=>rfl) (fun i hi=>Nat.lt_succ_of_lt hi) (fun b hb=>hb)
  (fun b hb=>⟨C.m.fin b hb,.inl hb⟩)
  (fun i bd' hi hu hb=>by
   rcases hi with rfl|rfl|rfl
   ·exact absurd hu (Nat.lt_irrefl _)
   ·simp[zaq,Ne.symm hin]at hb
   ·exact⟨_,by simpa[zaq,Ne.symm hbn,Ne.symm hbi]using hb⟩)
  (fun i bd' hi hb=>by
   rcases hi with rfl|rfl|rfl
   ·simp only[zaq,if_true,Option.some.injEq]at hb
    subst hb
    refine⟨Nat.lt_succ_self _,fun b hbb => ?_⟩
    obtain⟨r1,r2,r3⟩:=C.m.off _ _ _ hr1 hbb
    exact⟨r2,r1,.inr ⟨id,bd1,.inr (.inl rfl),hr1,hbb⟩⟩
   ·simp[zaq,Ne.symm hin]at hb
   ·have hb' : β i=some bd':=by simpa[zaq,Ne.symm hbn,Ne.symm hbi]using hb
    refine⟨Nat.lt_succ_of_lt (C.m.used _ _ hb'),fun b hbb => ?_⟩
    obtain⟨p1,p2,p3⟩:=C.m.off _ _ _ hb' hbb
    exact⟨p2,p1,.inr ⟨i,bd',.inr (.inr rfl),hb',hbb⟩⟩)
  (fun i j' bi bj b hi hj' hbi2 hbj h1 h2=>by
   have old:∀i' bd',i'=bid→(zaq (zaq β id none) s.n (some bd1)) i'=some bd' → β bid=some bd':=by
    intro i' bd' h hb;subst h;simpa[zaq,Ne.symm hbn,Ne.symm hbi]using hb
   rcases hi with rfl|rfl|rfl<;>rcases hj' with rfl|rfl|rfl
   ·rfl
   ·simp[zaq,Ne.symm hin]at hbj
   ·simp only[zaq,if_true,Option.some.injEq]at hbi2;subst hbi2
    have:=C.m.dis id j' bd1 bj b hr1 (old _ _ rfl hbj) h1 h2
    exact absurd this.symm hbi
   ·simp[zaq,Ne.symm hin]at hbi2
   ·rfl
   ·simp[zaq,Ne.symm hin]at hbi2
   ·simp only[zaq,if_true,Option.some.injEq]at hbj;subst hbj
    have:=C.m.dis i id bi bd1 b (old _ _ rfl hbi2) hr1 h1 h2
    exact absurd this hbi
   ·simp[zaq,Ne.symm hin]at hbj
   ·rfl)
  (fun E i hi hd=>by
   rcases hi with rfl|rfl|rfl
   ·refine⟨bd1,by simp[zaq],?_⟩
    have hr3:=ChOk.mono E (fun g _=>rfl) hr2
    rw[hr]at hr3
    simp only[zaf,if_true]
    exact hr3
   ·simp[zaf,Ne.symm hin]at hd
   ·refine⟨bd0,by simpa[zaq,Ne.symm hbn,Ne.symm hbi]using hb1,?_⟩
    have hb3:=ChOk.mono E (fun g _=>rfl) hb2
    rw[hc]at hb3
    simp only[zaf,if_true,Ne.symm hbn,Ne.symm hbi,if_false]
    obtain⟨q1,q2,g,vs',q3',q4,q5',q6',q7⟩:=hb3
    have hg:g=g0:=by rw[q3]at q3';exact(Option.some.inj q3').symm
    subst hg
    have hvs:vs'=vs:=by rw[q5]at q5';simpa using q5'.symm
    subst hvs
    refine⟨by rw[List.length_set];exact q1,q2,g,vs',q3',q4,q5',RelL.setAt j q6' (fun u hu2 => ?_),q7⟩
    rw[hu]at hu2
    obtain rfl:=Option.some.inj hu2
    simp only[RelA]
    refine⟨Nat.lt_succ_self _,hone,fun bd hb => ?_⟩
    simp only[zaq,if_true,Option.some.injEq]at hb
    subst hb;rfl)
 refine⟨F,_,fun t'=>RelA.mono E _ _ (C.t t'),M,C.nt,C.d,C.f,C.g,fun i bd' hi hb => ?_,Nat.le_succ_of_le C.k⟩
 have h1:s.n≠i:=by have:=C.k;omega
 by_cases h2:id=i
 ·subst h2;simp[zaq,h1]at hb
 ·exact C.e i bd' hi (by simpa[zaq,h1,h2]using hb)
theorem Spec.rawN {P:Program} {f:FuncId} {args:List AV} {r:AV} {e sz c e2 sz2:Nat} (xs:List (List PV)) (ys:List (List (List PV)))
 (S:∀q:Nat→PV,Spec P f (.own 0::args) [.row e sz (xs.mapIdx fun i x=>x.set c (q i))] r [.row e sz (xs.mapIdx fun i x=>x.set c (q i))]):Spec P f (.own 0::args) [.nst e sz c e2 sz2 xs ys none] r [.nst e sz c e2 sz2 xs ys none]:=by
 refine⟨(S fun _ => .undef).1,by simp,fun w F β vs M hv => ?_⟩
 obtain⟨b0,hb0,H0⟩:=M.ch 0 (by simp[nth])
 change ChOk _ w F β b0 (.nst e sz c e2 sz2 xs ys none)at H0
 have H0':=H0
 obtain⟨⟨hsz0,hin0⟩,hn0,hyl,hcz,hxl,H0⟩:=H0
 -- what stands in the column
 obtain⟨q,hq⟩:∃q:Nat→Value,∀g,b0.b=some g→∀i,i<xs.length→w.cell? ⟨g,i*sz+c,none⟩=some (q i)∧(q i).oneCell'=true:=by
  refine⟨fun i=>match b0.b with|some g=>(w.cell? ⟨g,i*sz+c,none⟩).getD undef|none=>undef,fun g hg i hi => ?_⟩
  rcases H0 with ⟨k1,k2,k3,_⟩|⟨g',cap,cur,k1,k2,k3,k4,k5,k6,k7,k8⟩
  ·rw[k2]at hi;simp at hi
  ·rw[k1]at hg
   cases hg
   have hil:(xs[i]'hi).length=sz:=hxl _ (List.getElem_mem hi)
   obtain⟨u,hu,hn⟩:=k8.cells i _ _ (List.getElem?_eq_getElem hi) (List.getElem?_eq_getElem (by rw[hyl];exact hi)) c _ (List.getElem?_eq_getElem (by rw[hil];exact hcz))
   simp only[k1,hu,Option.getD_some]
   refine⟨trivial,?_⟩
   unfold NCell at hn
   rw[if_pos rfl]at hn
   exact hn.one
 let bd1:Bind:=⟨b0.v,b0.b,b0.n,b0.sz,[]⟩
 obtain⟨S1,S2,S3⟩:=S fun i => .v (q i)
 have hU:∀i bd,β i=some bd→i=0:=fun i bd hb=>by have:=M.used i bd hb;simp at this;omega
 have hlen:(xs.mapIdx fun i x=>x.set c (PV.v (q i))).length=xs.length:=by simp
 let β1:Nat→Option Bind:=fun i=>if i=0 then some bd1 else none
 have M1:MemOk w (inB β1) (· < 1) F β1 (nth [.row e sz (xs.mapIdx fun i x=>x.set c (PV.v (q i)))]) w:=by
  refine⟨Nat.le_refl _,rfl,rfl,rfl,fun _ _ _=>rfl,M.fin,fun i bd hb => ?_,fun i hd => ?_,fun i j bi bj b h1 h2 _ _ => ?_,fun i bd b hb hh => ?_⟩
  ·simp only[β1]at hb
   split at hb
   ·omega
   ·simp at hb
  ·cases i with
   | succ i=>simp[nth]at hd
   | zero =>
    refine⟨bd1,by simp[β1],?_⟩
    change ChOk _ w F β1 bd1 (.row e sz (xs.mapIdx fun i x=>x.set c (PV.v (q i))))
    refine⟨⟨hsz0,rfl⟩,by rw[hlen];exact hn0,fun cs hcs => ?_,?_⟩
    ·obtain⟨i,hi⟩:=List.getElem?_of_mem hcs
     rw[List.getElem?_mapIdx]at hi
     cases hx:xs[i]? with
     | none=>rw[hx]at hi;simp at hi
     | some x =>
      rw[hx]at hi
      simp only[Option.map_some,Option.some.injEq]at hi
      subst hi
      rw[List.length_set];exact hxl x (List.mem_of_getElem? hx)
    ·rcases H0 with ⟨k1,k2,k3,_⟩|⟨g,cap,cur,k1,k2,k3,k4,k5,k6,k7,k8⟩
     ·exact .inl ⟨k1,by rw[k2];rfl,k3⟩
     ·refine .inr ⟨g,cap,cur,k1,by rw[hlen];exact k2,k3,by rw[hlen];exact k4,k5,k6,RelE.of fun i cs hi => ?_⟩
      rw[List.getElem?_mapIdx]at hi
      cases hx:xs[i]? with
      | none=>rw[hx]at hi;simp at hi
      | some x =>
       rw[hx]at hi
       simp only[Option.map_some,Option.some.injEq]at hi
       subst hi
       have hil:i<xs.length:=(List.getElem?_eq_some_iff.1 hx).1
       have hxz:=hxl x (List.mem_of_getElem? hx)
       refine⟨by rw[List.length_set];exact hxz,RelC.of fun j p hp => ?_⟩
       have hjl:j<x.length:=by have:=(List.getElem?_eq_some_iff.1 hp).1;simpa using this
       by_cases hj:j=c
       ·subst hj
        rw[List.getElem?_set_self hjl]at hp
        cases hp
        obtain⟨z1,z2⟩:=hq g k1 i hil
        exact⟨q i,by rw[Nat.zero_add];exact z1,by simp only[RelP];exact⟨trivial,z2⟩⟩
       ·rw[List.getElem?_set_ne (fun h=>hj h.symm)]at hp
        obtain⟨u,hu,hn⟩:=k8.cells i x _ hx (List.getElem?_eq_getElem (by rw[hyl];exact hil)) j p hp
        unfold NCell at hn
        rw[if_neg hj]at hn
        exact⟨u,by rw[Nat.zero_add];exact hu,hn⟩
  ·have:∀i bd,β1 i=some bd→i=0:=fun i bd hb=>by
    simp only[β1]at hb
    split at hb
    ·assumption
    ·simp at hb
   rw[this i bi h1,this j bj h2]
  ·simp only[β1]at hb
   split at hb
   ·cases hb
    have h':=Bind.has_nil hh
    have:=M.off 0 b0 b hb0 (.inl h')
    exact⟨this.1,this.2.1,.inr ⟨0,bd1,by simp[β1],.inl h'⟩⟩
   ·simp at hb
 have hv1:RelL (· < 1) w F β1 (.own 0::args) vs:=RelL.mono (E:=⟨fun _ h=>h,fun _ h=>⟨h,rfl⟩,fun i bd hi hb=>by
  simp only[β1]at hb
  split at hb
  ·rename_i h0
   subst h0
   cases hb
   exact⟨b0.bs,hb0⟩
  ·simp at hb⟩) _ _ hv
 refine(S3 w F β1 vs M1 hv1).mono ?_
 rintro en w' ⟨v,F',β',rfl,M',hr,hF,hF',hβ⟩
 have hbs:∀b,b∈b0.bs→b<w.heap.size∧¬inB β1 b∧¬F b:=fun b hb=>by
  have:=M.off 0 b0 b hb0 (.inr hb)
  refine⟨this.2.1,?_,this.1⟩
  rintro⟨i,bd,h1,h2⟩
  simp only[β1]at h1
  split at h1
  ·cases h1
   have h2:=Bind.has_nil h2
   rcases H0 with ⟨k1,_⟩|⟨g,cap,cur,k1,k2,k3,k4,k5,k6,k7,k8⟩
   ·exact absurd (h2.symm.trans k1) (by simp)
   ·have:some b=some g:=h2.symm.trans k1
    cases this;exact k7 hb
  ·simp at h1
 have hinn:∀b,b∈b0.bs→w'.heap[b]? = w.heap[b]? := fun b hb=>M'.frame b (hbs b hb).1 (hbs b hb).2.1
 obtain⟨bdr,hbr,Hr⟩:=M'.ch 0 (by simp[nth])
 obtain⟨bs1,hbs1⟩:=hβ 0 bdr (by simp) hbr
 have hbd:bd1=⟨bdr.v,bdr.b,bdr.n,bdr.sz,bs1⟩:=by simpa[β1]using hbs1
 have eb1:bdr.v=b0.v:=(congrArg Bind.v hbd).symm
 have eb2:bdr.b=b0.b:=(congrArg Bind.b hbd).symm
 have eb3:bdr.n=b0.n:=(congrArg Bind.n hbd).symm
 have eb4:bdr.sz=b0.sz:=(congrArg Bind.sz hbd).symm
 have hbr0:bdr=⟨b0.v,b0.b,b0.n,b0.sz,bdr.bs⟩:=by rw[←eb1,←eb2,←eb3,←eb4]
 change ChOk _ w' F' β' bdr (.row e sz (xs.mapIdx fun i x=>x.set c (PV.v (q i))))at Hr
 obtain⟨⟨hrz,hrn⟩,hrl,hrc,Hr⟩:=Hr
 have hU':∀i bd,β' i=some bd→i=0:=fun i bd hb=>by have:=M'.used i bd hb;simp at this;omega
 let β2:Nat→Option Bind:=fun i=>if i=0 then some b0 else none
 have hF2:∀b,b∈b0.bs→¬F' b:=fun b hb hf=>by
  rcases hF' b hf with h|h|h
  ·exact(hbs b hb).2.2 h
  ·have:=(hbs b hb).1;omega
  ·exact(hbs b hb).2.1 h
 have hsub:∀b,inB β1 b→inB β b:=fun b ⟨i,bd,h1,h2⟩=>by
  simp only[β1]at h1
  split at h1
  ·cases h1
   exact⟨0,b0,hb0,.inl (Bind.has_nil h2)⟩
  ·simp at h1
 refine⟨v,F',β2,rfl,⟨M'.size,M'.os,M'.tape,M'.output,fun b hb hn=>M'.frame b hb fun h=>hn (hsub b h),M'.fin,fun i bd hb => ?_,fun i hd => ?_,fun i j bi bj b h1 h2 _ _ => ?_,fun i bd b hb hh => ?_⟩,RelA.mono (E:=⟨fun _ h=>h,fun _ h=>⟨h,rfl⟩,fun i bd hi hb => ?_⟩) _ _ hr,hF,fun b hb => ?_,fun i bd hi hb => ?_⟩
 ·simp only[β2]at hb
  split at hb
  ·rename_i h0;subst h0;simp
  ·simp at hb
 ·cases i with
  | succ i=>simp[nth]at hd
  | zero =>
   refine⟨b0,by simp[β2],?_⟩
   change ChOk _ w' F' β2 b0 (.nst e sz c e2 sz2 xs ys none)
   refine⟨⟨hsz0,fun b hb => ?_⟩,hn0,hyl,hcz,hxl,?_⟩
   ·obtain⟨cur,hc⟩:=hin0 b hb
    exact⟨cur,(hinn b hb).trans hc⟩
   ·rcases H0 with h|⟨g,cap,cur,k1,k2,k3,k4,k5,k6,k7,k8⟩
    ·exact .inl h
    ·rcases Hr with ⟨l1,_⟩|⟨g',cap',cur',l1,l2,l3,l4,l5,l6,l7⟩
     ·rw[hbr0]at l1
      exact absurd (k1.symm.trans l1) (by simp)
     ·rw[hbr0]at l1 l2
      have hg:g'=g:=by have:=l1.symm.trans k1;simpa using this
      subst hg
      have hcap:cap'=cap:=by
       have:=l2.symm.trans k2
       simp only[Value.slice.injEq]at this
       exact this.2.2
      subst hcap
      have hcol:∀i x,xs[i]? = some x→∀j p,(x.set c (PV.v (q i)))[j]? = some p→∃u,w'.cell? ⟨g',i*sz+j,none⟩=some u∧RelP w' F' p u:=fun i x hx j p hp=>by
       obtain⟨_,hC⟩:=l7.at i (x.set c (PV.v (q i))) (by rw[List.getElem?_mapIdx,hx];rfl)
       obtain⟨u,hu,hr⟩:=hC.at j p hp
       exact⟨u,by rwa [Nat.zero_add]at hu,hr⟩
      have hcc:∀i,i<xs.length→w'.cell? ⟨g',i*sz+c,none⟩=w.cell? ⟨g',i*sz+c,none⟩:=fun i hi=>by
       have hil:(xs[i]'hi).length=sz:=hxl _ (List.getElem_mem hi)
       obtain⟨u,hu,hr⟩:=hcol i _ (List.getElem?_eq_getElem hi) c (PV.v (q i)) (List.getElem?_set_self (by rw[hil];exact hcz))
       simp only[RelP]at hr
       rw[hu,hr.1,(hq g' k1 i hi).1]
      have K:zjr w F w' F':=fun b hb=>⟨hF b hb,M'.frame b (M.fin b hb) fun⟨i,bd,h1,h2⟩=>by
       simp only[β1]at h1
       split at h1
       ·cases h1
        exact(M.off 0 b0 b hb0 (.inl (Bind.has_nil h2))).1 hb
       ·simp at h1⟩
      refine .inr ⟨g',cap',cur',k1,k2,l3,k4,k5,l6,k7,fun i x y hx hy j p hp => ?_,fun i i' b o o' n n' k k' h1 h2 h3 h4 h5 h6 => ?_,fun i id ho=>by simp at ho⟩
      ·have hi:i<xs.length:=(List.getElem?_eq_some_iff.1 hx).1
       by_cases hj:j=c
       ·subst hj
        obtain⟨u,hu,hn⟩:=k8.cells i x y hx hy j p hp
        refine⟨u,(hcc i hi).trans hu,?_⟩
        unfold NCell at hn ⊢
        rw[if_pos rfl]at hn ⊢
        exact hn.mono K hinn
       ·obtain⟨u,hu,hr⟩:=hcol i x hx j p (by rw[List.getElem?_set_ne (fun h=>hj h.symm)];exact hp)
        refine⟨u,hu,?_⟩
        unfold NCell
        rw[if_neg hj]
        exact hr
      ·exact k8.inj i i' b o o' n n' k k' h1 h2 h3 h4 ((hcc i h1).symm.trans h5) ((hcc i' h2).symm.trans h6)
 ·have:∀i bd,β2 i=some bd→i=0:=fun i bd hb=>by
   simp only[β2]at hb
   split at hb
   ·assumption
   ·simp at hb
  rw[this i bi h1,this j bj h2]
 ·simp only[β2]at hb
  split at hb
  ·cases hb
   rcases hh with hh|hh
   ·have:=M'.off 0 bdr b hbr (.inl (by rw[hbr0];exact hh))
    refine⟨this.1,this.2.1,.inr ⟨0,b0,hb0,.inl hh⟩⟩
   ·exact⟨hF2 b hh,Nat.lt_of_lt_of_le (hbs b hh).1 M'.size,.inr ⟨0,b0,hb0,.inr hh⟩⟩
  ·simp at hb
 ·simp only[β2]at hb
  split at hb
  ·rename_i h0
   subst h0
   cases hb
   exact⟨bdr.bs,by rw[hbr];exact congrArg some hbr0⟩
  ·simp at hb
 ·rcases hF' b hb with h|h|h
  ·exact .inl h
  ·exact .inr (.inl h)
  ·exact .inr (.inr (hsub b h))
 ·simp only[β2]at hb
  split at hb
  ·rename_i h0
   subst h0
   cases hb
   exact⟨b0.bs,hb0⟩
  ·simp at hb
end Go.Proofs.YtmjbgbmegbkmhaaGreat
