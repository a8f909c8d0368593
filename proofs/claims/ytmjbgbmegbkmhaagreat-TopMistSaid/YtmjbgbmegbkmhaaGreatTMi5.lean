/- Lemmas for the proof of topMist.proved. -/
import Derived.Test.YtmjbgbmegbkmhaaGreatTMi4
import Derived.Lib.VarintBits
import Derived.Lib.ConvBytes
import Derived.Laws.IdiomStrings
import Derived.Shelf.Strings.Builder1
import Derived.Shelf.Small.Wraps
import Derived.Shelf.Strings.BuilderF
import Derived.Shelf.Bits.Mul64
import Derived.Ground.Names2Prog
import Derived.Shelf.Slices.SearchI
import Derived.Shelf.Slices.Delete
import Derived.Test.YtmjbgbmegbkmhaaGreatProg
import Derived.Deep.QuietTactic
import Derived.BigQuiet
import Derived.Laws.Concat
import Derived.Lib.Zigzag
import Derived.Laws.BytesString
import Derived.Lib.Varint
import Derived.Deep.RegionHeld3
import Derived.Laws.Externs
import Derived.Laws.IdiomCopy
namespace Go.Proofs.YtmjbgbmegbkmhaaGreat
set_option linter.all false
open Go.RowKit
theorem RelL.setAt {U F:Nat→Prop} {β : Nat→Option Bind} {w:World} {y:AV} : ∀ {cs:List AV} {us:List Value} (j:Nat),RelL U w F β cs us→(∀u,us[j]? = some u→RelA U w F β y u)→RelL U w F β (cs.set j y) us
 | [],us,j,h,_=>by simpa using h
 | x::r,us,j,h,hy=>by
  simp only[RelL]at h
  obtain⟨u,us',rfl,h1,h2⟩:=h
  cases j with
  | zero=>simp only[List.set_cons_zero,RelL];exact⟨u,us',rfl,hy u rfl,h2⟩
  | succ j=>simp only[List.set_cons_succ,RelL];exact⟨u,us',rfl,h1,RelL.setAt j h2 (fun v hv=>hy v (by simpa using hv))⟩
theorem To.nilC {k:Nat} {s:St} (id j e sz tt:Nat) (cs:List AV) (hc:zae s.h id = .blk tt cs) (hj:cs[j]? = some (.c (.v (.slice none 0 0)))):ToK k s ⟨s.t,(s.n,.row e sz [])::(id,.blk tt (cs.set j (.own s.n)))::s.h,s.n+1⟩:=by
 intro H F β a w hk C
 obtain⟨bd0,hb1,hb2⟩:=C.m.ch id (by rw[hc];simp)
 have hidn:id≠s.n:=fun h=>absurd (C.m.used _ _ hb1) (by rw[h];exact Nat.lt_irrefl _)
 obtain⟨M,E⟩:=C.m.step (w':=w) (h':=zae ((s.n,.row e sz [])::(id,.blk tt (cs.set j (.own s.n)))::s.h)) (β':=zay β s.n (some ⟨.slice none 0 0,none,0,sz,[]⟩)) (F':=F) (U':=(· < s.n+1)) (fun i=>i=s.n∨i=id)
  (fun i hi=>by simp only[not_or]at hi;simp[zay,Ne.symm hi.1]) (fun i hi=>by simp only[not_or]at hi;simp[zae,Ne.symm hi.1,Ne.symm hi.2]) rfl rfl rfl (Nat.le_refl _) (fun _ _ _=>rfl) (fun i hi=>Nat.lt_succ_of_lt hi) (fun b hb=>hb)
  (fun b hb=>⟨C.m.fin b hb,.inl hb⟩)
  (fun i bd' hi hu hb=>by
   rcases hi with rfl|rfl
   ·exact absurd hu (Nat.lt_irrefl _)
   ·exact⟨_,by simpa[zay,Ne.symm hidn]using hb⟩)
  (fun i bd' hi hb=>by
   rcases hi with rfl|rfl
   ·simp only[zay,if_true,Option.some.injEq]at hb
    subst hb
    exact⟨Nat.lt_succ_self _,fun b hb=>by have:=Bind.has_nil hb;simp at this⟩
   ·have hb' : β i=some bd':=by simpa[zay,Ne.symm hidn]using hb
    refine⟨Nat.lt_succ_of_lt (C.m.used _ _ hb'),fun b hbb => ?_⟩
    obtain⟨p1,p2,p3⟩:=C.m.off _ _ _ hb' hbb
    exact⟨p2,p1,.inr ⟨i,bd',.inr rfl,hb',hbb⟩⟩)
  (fun i j' bi bj b hi hj' hbi hbj h1 h2=>by
   rcases hi with rfl|rfl<;>rcases hj' with rfl|rfl
   ·rfl
   ·simp only[zay,if_true,Option.some.injEq]at hbi;subst hbi;have:=Bind.has_nil h1;simp at this
   ·simp only[zay,if_true,Option.some.injEq]at hbj;subst hbj;have:=Bind.has_nil h2;simp at this
   ·rfl)
  (fun E i hi _=>by
   rcases hi with rfl|rfl
   ·refine⟨⟨.slice none 0 0,none,0,sz,[]⟩,by simp[zay],?_⟩
    simp only[zae,if_true,ChOk]
    simp
   ·refine⟨bd0,by simpa[zay,Ne.symm hidn]using hb1,?_⟩
    have hb2':=ChOk.mono E (fun g _=>rfl) hb2
    rw[hc]at hb2'
    simp only[zae,if_true,Ne.symm hidn,if_false]
    obtain⟨q1,q2,g,vs,q3,q4,q5,q6,q7⟩:=hb2'
    refine⟨by rw[List.length_set];exact q1,q2,g,vs,q3,q4,q5,RelL.setAt j q6 (fun u hu => ?_),q7⟩
    obtain⟨u',hu',hr⟩:=q6.at j _ hj
    rw[hu]at hu';cases hu'
    rw[relC]at hr
    simp only[RelA]
    rw[hr.1]
    refine⟨Nat.lt_succ_self _,rfl,fun bd hb => ?_⟩
    simp only[zay,if_true,Option.some.injEq]at hb
    subst hb;rfl)
 refine⟨F,zay β s.n (some ⟨.slice none 0 0,none,0,sz,[]⟩),fun t'=>RelA.mono E _ _ (C.t t'),M,C.nt,C.d,C.f,C.g,fun i bd' hi hb => ?_,Nat.le_succ_of_le C.k⟩
 refine C.e i bd' hi ?_
 have:s.n≠i:=by have:=C.k;omega
 simpa[zay,this]using hb
theorem To.cutC {k:Nat} {s:St} (bid j id l e sz tt:Nat) (cs:List AV) (xs:List (List PV)) (hc:zae s.h bid = .blk tt cs) (hj:cs[j]? = some (.view id 0 l)) (hr:zae s.h id = .row e sz xs) (hl:l≤xs.length) :
 ToK k s ⟨s.t,(s.n,.row e sz (xs.take l))::(id,.dead)::(bid,.blk tt (cs.set j (.own s.n)))::s.h,s.n+1⟩:=by
 intro H F β a w hk C
 obtain⟨bd0,hb1,hb2⟩:=C.m.ch bid (by rw[hc];simp)
 obtain⟨bd1,hr1,hr2⟩:=C.m.ch id (by rw[hr];simp)
 have hbn:bid≠s.n:=fun h=>absurd (C.m.used _ _ hb1) (by rw[h];exact Nat.lt_irrefl _)
 have hin:id≠s.n:=fun h=>absurd (C.m.used _ _ hr1) (by rw[h];exact Nat.lt_irrefl _)
 have hbi:bid≠id:=fun h=>by rw[h,hr]at hc;simp at hc
 have hb2':=hb2
 rw[hc]at hb2'
 obtain⟨q1,q2,g0,vs,q3,q4,q5,q6,q7⟩:=hb2'
 obtain⟨u,hu,hv⟩:=q6.at j _ hj
 simp only[RelA]at hv
 obtain⟨_,hone,hv⟩:=hv
 obtain⟨va,vc,rfl,hvl,hvc,hvm,hvg,hvn⟩:=hv bd1 hr1
 obtain⟨vn,hvn⟩:=hvn trivial
 have hr3:=hr2
 rw[hr]at hr3
 obtain⟨p1,p2,p3,p4⟩:=hr3
 have nb:∃b,(⟨.slice va l vc,b,l,sz,[]⟩:Bind).b=bd1.b∧((b=none∧l=0∧(Value.slice va l vc) = .slice none 0 0)∨∃g cur,b=some g∧va=some ⟨g,0,none⟩∧w.heap[g]? = some (.cells cur e (0,0))∧l≤vc∧vc≤maxLen∧cur.size=vc*sz∧RelE w F g sz 0 (xs.take l)):=by
  refine⟨bd1.b,rfl,?_⟩
  rcases p4 with ⟨h1,h2,h3⟩|⟨g,cap,cur,h1,h2,h3,h4,h5,h6,h7⟩
  ·rw[h3]at hvn
   simp only[Value.slice.injEq]at hvn
   obtain⟨rfl,_,rfl⟩:=hvn
   have:l=0:=by subst h2;simpa using hl
   subst this
   exact .inl ⟨h1,rfl,rfl⟩
  ·rw[h2]at hvn
   simp only[Value.slice.injEq]at hvn
   obtain⟨rfl,_,rfl⟩:=hvn
   refine .inr ⟨g,cur,h1,rfl,h3,hvc,hvm,h6,?_⟩
   refine RelE.of fun i cs' hi => ?_
   rw[List.getElem?_take]at hi
   split at hi
   ·exact RelE.at h7 i cs' hi
   ·simp at hi
 obtain⟨nbb,hnb,hnc⟩:=nb
 obtain⟨M,E⟩:=C.m.step (w':=w) (h':=zae ((s.n,.row e sz (xs.take l))::(id,.dead)::(bid,.blk tt (cs.set j (.own s.n)))::s.h)) (β':=zay (zay β id none) s.n (some ⟨.slice va l vc,nbb,l,sz,[]⟩)) (F':=F) (U':=(· < s.n+1)) (fun i=>i=s.n∨i=id∨i=bid)
  (fun i hi=>by simp only[not_or]at hi;simp[zay,Ne.symm hi.1,Ne.symm hi.2.1]) (fun i hi=>by simp only[not_or]at hi;simp[zae,Ne.symm hi.1,Ne.symm hi.2.1,Ne.symm hi.2.2]) rfl rfl rfl (Nat.le_refl _) (fun _ _ _=>rfl) (fun i hi=>Nat.lt_succ_of_lt hi) (fun b hb=>hb)
  (fun b hb=>⟨C.m.fin b hb,.inl hb⟩)
  (fun i bd' hi hu hb=>by
   rcases hi with rfl|rfl|rfl
   ·exact absurd hu (Nat.lt_irrefl _)
   ·simp[zay,Ne.symm hin]at hb
   ·exact⟨_,by simpa[zay,Ne.symm hbn,Ne.symm hbi]using hb⟩)
  (fun i bd' hi hb=>by
   rcases hi with rfl|rfl|rfl
   ·simp only[zay,if_true,Option.some.injEq]at hb
    subst hb
    refine⟨Nat.lt_succ_self _,fun b hbb => ?_⟩
    have hbb':bd1.b=some b:=by rw[←hnb];exact Bind.has_nil hbb
    obtain⟨r1,r2,r3⟩:=C.m.off _ _ _ hr1 (.inl hbb')
    exact⟨r2,r1,.inr ⟨id,bd1,.inr (.inl rfl),hr1,.inl hbb'⟩⟩
   ·simp[zay,Ne.symm hin]at hb
   ·have hb' : β i=some bd':=by simpa[zay,Ne.symm hbn,Ne.symm hbi]using hb
    refine⟨Nat.lt_succ_of_lt (C.m.used _ _ hb'),fun b hbb => ?_⟩
    obtain⟨p1,p2,p3⟩:=C.m.off _ _ _ hb' hbb
    exact⟨p2,p1,.inr ⟨i,bd',.inr (.inr rfl),hb',hbb⟩⟩)
  (fun i j' bi bj b hi hj' hbi2 hbj h1 h2=>by
   have old:∀i' bd',i'=bid→(zay (zay β id none) s.n (some ⟨.slice va l vc,nbb,l,sz,[]⟩)) i'=some bd' → β bid=some bd':=by
    intro i' bd' h hb;subst h;simpa[zay,Ne.symm hbn,Ne.symm hbi]using hb
   rcases hi with rfl|rfl|rfl<;>rcases hj' with rfl|rfl|rfl
   ·rfl
   ·simp[zay,Ne.symm hin]at hbj
   ·simp only[zay,if_true,Option.some.injEq]at hbi2;subst hbi2
    have:=C.m.dis id j' bd1 bj b hr1 (old _ _ rfl hbj) (.inl (by rw[←hnb];exact Bind.has_nil h1)) h2
    exact absurd this.symm hbi
   ·simp[zay,Ne.symm hin]at hbi2
   ·rfl
   ·simp[zay,Ne.symm hin]at hbi2
   ·simp only[zay,if_true,Option.some.injEq]at hbj;subst hbj
    have:=C.m.dis i id bi bd1 b (old _ _ rfl hbi2) hr1 h1 (.inl (by rw[←hnb];exact Bind.has_nil h2))
    exact absurd this hbi
   ·simp[zay,Ne.symm hin]at hbj
   ·rfl)
  (fun E i hi hd=>by
   rcases hi with rfl|rfl|rfl
   ·refine⟨⟨.slice va l vc,nbb,l,sz,[]⟩,by simp[zay],?_⟩
    simp only[zae,if_true,ChOk]
    refine⟨⟨trivial,trivial⟩,by rw[List.length_take];omega,fun cs' hcs=>p3 cs' (List.mem_of_mem_take hcs),?_⟩
    rcases hnc with ⟨h1,h2,h3⟩|⟨g,cur,h1,h2,h3,h4,h5,h6,h7⟩
    ·exact .inl ⟨h1,by rw[h2];rfl,h3⟩
    ·refine .inr ⟨g,vc,cur,h1,?_,h3,?_,h5,h6,h7⟩
     ·rw[h2,List.length_take,Nat.min_eq_left hl]
     ·rw[List.length_take,Nat.min_eq_left hl];exact h4
   ·simp[zae,Ne.symm hin]at hd
   ·refine⟨bd0,by simpa[zay,Ne.symm hbn,Ne.symm hbi]using hb1,?_⟩
    have hb3:=ChOk.mono E (fun g _=>rfl) hb2
    rw[hc]at hb3
    simp only[zae,if_true,Ne.symm hbn,Ne.symm hbi,if_false]
    obtain⟨q1,q2,g,vs',q3',q4,q5',q6',q7⟩:=hb3
    have hg:g=g0:=by rw[q3]at q3';exact(Option.some.inj q3').symm
    subst hg
    have hvs:vs'=vs:=by rw[q5]at q5';simpa using q5'.symm
    subst hvs
    refine⟨by rw[List.length_set];exact q1,q2,g,vs',q3',q4,q5',RelL.setAt j q6' (fun u hu2 => ?_),q7⟩
    rw[hu]at hu2
    obtain rfl:=Option.some.inj hu2
    simp only[RelA]
    refine⟨Nat.lt_succ_self _,rfl,fun bd hb => ?_⟩
    simp only[zay,if_true,Option.some.injEq]at hb
    subst hb;rfl)
 refine⟨F,_,fun t'=>RelA.mono E _ _ (C.t t'),M,C.nt,C.d,C.f,C.g,fun i bd' hi hb => ?_,Nat.le_succ_of_le C.k⟩
 have h1:s.n≠i:=by have:=C.k;omega
 by_cases h2:id=i
 ·subst h2;simp[zay,h1]at hb
 ·exact C.e i bd' hi (by simpa[zay,h1,h2]using hb)
theorem z2q {P:Program} {c:Bool} {f:FuncId} {args:List AV} {φ : Prop} {h:Nat→Chunk} {m:Nat} {K:Eff→Prop} (hc:c=false) (k:K ⟨.undef,[],0⟩):zyy P c f args φ h m K := .inr ⟨fun h=>absurd (hc.symm.trans h) (by decide),fun _=>k⟩
theorem To.moveC {k:Nat} {s:St} (bid j id e sz tt:Nat) (cs:List AV) (xs:List (List PV)) (hc:zae s.h bid = .blk tt cs) (hj:cs[j]? = some (.own id)) (hr:zae s.h id = .row e sz xs) :
 ToK k s ⟨s.t,(s.n,.row e sz xs)::(id,.dead)::(bid,.blk tt (cs.set j (.own s.n)))::s.h,s.n+1⟩:=by
 intro H F β a w hk C
 obtain⟨bd0,hb1,hb2⟩:=C.m.ch bid (by rw[hc];simp)
 obtain⟨bd1,hr1,hr2⟩:=C.m.ch id (by rw[hr];simp)
 have hbn:bid≠s.n:=fun h=>absurd (C.m.used _ _ hb1) (by rw[h];exact Nat.lt_irrefl _)
 have hin:id≠s.n:=fun h=>absurd (C.m.used _ _ hr1) (by rw[h];exact Nat.lt_irrefl _)
 have hbi:bid≠id:=fun h=>by rw[h,hr]at hc;simp at hc
 have hb2':=hb2
 rw[hc]at hb2'
 obtain⟨q1,q2,g0,vs,q3,q4,q5,q6,q7⟩:=hb2'
 obtain⟨u,hu,hv⟩:=q6.at j _ hj
 simp only[RelA]at hv
 obtain⟨_,hone,hv⟩:=hv
 obtain rfl:=hv bd1 hr1
 obtain⟨M,E⟩:=C.m.step (w':=w) (h':=zae ((s.n,.row e sz xs)::(id,.dead)::(bid,.blk tt (cs.set j (.own s.n)))::s.h)) (β':=zay (zay β id none) s.n (some bd1)) (F':=F) (U':=(· < s.n+1)) (fun i=>i=s.n∨i=id∨i=bid)
  (fun i hi=>by simp only[not_or]at hi;simp[zay,Ne.symm hi.1,Ne.symm hi.2.1]) (fun i hi=>by simp only[not_or]at hi;simp[zae,Ne.symm hi.1,Ne.symm hi.2.1,Ne.symm hi.2.2]) rfl rfl rfl (Nat.le_refl _) (fun _ _ _=>rfl) (fun i hi=>Nat.lt_succ_of_lt hi) (fun b hb=>hb)
  (fun b hb=>⟨C.m.fin b hb,.inl hb⟩)
  (fun i bd' hi hu hb=>by
   rcases hi with rfl|rfl|rfl
   ·exact absurd hu (Nat.lt_irrefl _)
   ·simp[zay,Ne.symm hin]at hb
   ·exact⟨_,by simpa[zay,Ne.symm hbn,Ne.symm hbi]using hb⟩)
  (fun i bd' hi hb=>by
   rcases hi with rfl|rfl|rfl
   ·simp only[zay,if_true,Option.some.injEq]at hb
    subst hb
    refine⟨Nat.lt_succ_self _,fun b hbb => ?_⟩
    obtain⟨r1,r2,r3⟩:=C.m.off _ _ _ hr1 hbb
    exact⟨r2,r1,.inr ⟨id,bd1,.inr (.inl rfl),hr1,hbb⟩⟩
   ·simp[zay,Ne.symm hin]at hb
   ·have hb' : β i=some bd':=by simpa[zay,Ne.symm hbn,Ne.symm hbi]using hb
    refine⟨Nat.lt_succ_of_lt (C.m.used _ _ hb'),fun b hbb => ?_⟩
    obtain⟨p1,p2,p3⟩:=C.m.off _ _ _ hb' hbb
    exact⟨p2,p1,.inr ⟨i,bd',.inr (.inr rfl),hb',hbb⟩⟩)
  (fun i j' bi bj b hi hj' hbi2 hbj h1 h2=>by
   have old:∀i' bd',i'=bid→(zay (zay β id none) s.n (some bd1)) i'=some bd' → β bid=some bd':=by
    intro i' bd' h hb;subst h;simpa[zay,Ne.symm hbn,Ne.symm hbi]using hb
   rcases hi with rfl|rfl|rfl<;>rcases hj' with rfl|rfl|rfl
   ·rfl
   ·simp[zay,Ne.symm hin]at hbj
   ·simp only[zay,if_true,Option.some.injEq]at hbi2;subst hbi2
    have:=C.m.dis id j' bd1 bj b hr1 (old _ _ rfl hbj) h1 h2
    exact absurd this.symm hbi
   ·simp[zay,Ne.symm hin]at hbi2
   ·rfl
   ·simp[zay,Ne.symm hin]at hbi2
   ·simp only[zay,if_true,Option.some.injEq]at hbj;subst hbj
    have:=C.m.dis i id bi bd1 b (old _ _ rfl hbi2) hr1 h1 h2
    exact absurd this hbi
   ·simp[zay,Ne.symm hin]at hbj
   ·rfl)
  (fun E i hi hd=>by
   rcases hi with rfl|rfl|rfl
   ·refine⟨bd1,by simp[zay],?_⟩
    have hr3:=ChOk.mono E (fun g _=>rfl) hr2
    rw[hr]at hr3
    simp only[zae,if_true]
    exact hr3
   ·simp[zae,Ne.symm hin]at hd
   ·refine⟨bd0,by simpa[zay,Ne.symm hbn,Ne.symm hbi]using hb1,?_⟩
    have hb3:=ChOk.mono E (fun g _=>rfl) hb2
    rw[hc]at hb3
    simp only[zae,if_true,Ne.symm hbn,Ne.symm hbi,if_false]
    obtain⟨q1,q2,g,vs',q3',q4,q5',q6',q7⟩:=hb3
    have hg:g=g0:=by rw[q3]at q3';exact(Option.some.inj q3').symm
    subst hg
    have hvs:vs'=vs:=by rw[q5]at q5';simpa using q5'.symm
    subst hvs
    refine⟨by rw[List.length_set];exact q1,q2,g,vs',q3',q4,q5',RelL.setAt j q6' (fun u hu2 => ?_),q7⟩
    rw[hu]at hu2
    obtain rfl:=Option.some.inj hu2
    simp only[RelA]
    refine⟨Nat.lt_succ_self _,hone,fun bd hb => ?_⟩
    simp only[zay,if_true,Option.some.injEq]at hb
    subst hb;rfl)
 refine⟨F,_,fun t'=>RelA.mono E _ _ (C.t t'),M,C.nt,C.d,C.f,C.g,fun i bd' hi hb => ?_,Nat.le_succ_of_le C.k⟩
 have h1:s.n≠i:=by have:=C.k;omega
 by_cases h2:id=i
 ·subst h2;simp[zay,h1]at hb
 ·exact C.e i bd' hi (by simpa[zay,h1,h2]using hb)
def yjm (ops:Array Oper) (n:Nat) (K:St→Prop) (acc:List (List Nat × List Nat)) (s':St):Prop:=zwj ops acc=true∧K ⟨s'.t,s'.h,n+4*ops.size⟩
theorem zbm {P:Program} {nt:Nat} {ops:Array Oper} {K:St→Prop} {t:List (Nat × AV)} {h:List (Nat × Chunk)} {n:Nat} (ds:List (Option Tmp)) (hds:ops.toList.map (fun o:Oper=>o.dst)=ds)
 (G:∀(O:Array Oper) (l:List Oper) (R:List (List Nat × List Nat)→St→Prop),l=ops.toList→(∀j:Nat,(O[j]?).bind (fun o:Oper=>o.dst)=(ds[j]?).bind id)→R=yjm ops n K→zmm P nt O n 0 l [] R ⟨t,h,n⟩):zab P nt ops K ⟨t,h,n⟩:=by
 refine G ops ops.toList _ rfl (fun j => ?_) rfl
 rw[←hds,List.getElem?_map,Array.getElem?_toList]
 cases ops[j]? <;> rfl
theorem za1 {P:Program} {nt:Nat} {O:Array Oper} {n i:Nat} {o:Oper} {r0:List Oper} {acc:List (List Nat × List Nat)} {R:List (List Nat × List Nat)→St→Prop} {s:St}
 (G:∀r,r=r0→zmm P nt O n i (o::r) acc R s):zmm P nt O n i (o::r0) acc R s:=G r0 rfl
theorem zml {P:Program} {nt:Nat} {O:Array Oper} {n i:Nat} {acc:List (List Nat × List Nat)} {R:List (List Nat × List Nat)→St→Prop} {t:List (Nat × AV)} {h:List (Nat × Chunk)} {m:Nat} (G:R acc ⟨t,h,m⟩):zmm P nt O n i [] acc R ⟨t,h,m⟩:=G
theorem zmk {ops:Array Oper} {n:Nat} {K:St→Prop} {acc:List (List Nat × List Nat)} {t:List (Nat × AV)} {h:List (Nat × Chunk)} {m:Nat} (G1:zwj ops acc=true) (G2:K ⟨t,h,n+4*ops.size⟩):yjm ops n K acc ⟨t,h,m⟩:=⟨G1,G2⟩
theorem Spec.hand {P:Program} {f:FuncId} {args args':List AV} {hs hs1 hs1':List Chunk} {r:AV} (k:Nat) (S:Spec P f args' hs1 r hs1') (hk:k≤hs.length) (hk1:hs1'.length=k) (hw:WkL (cvL (List.range k) (nth hs) args) args') (hh:hs1=(List.range k).map fun id=>cvC (List.range k) (nth hs) (nth hs id)) :
 Spec P f args hs r (hs1'++List.replicate (hs.length-k) .dead):=by
 obtain⟨S0,_,S⟩:=S
 refine⟨S0,by simp;omega,fun w F β vs M hv => ?_⟩
 have hl1:hs1.length=k:=by rw[hh];simp
 have M1:=(zwl M (hT:=nth hs) (fun _ _=>rfl) (List.range k) List.nodup_range).here
 have hv1:=hw.run (zfn M (hT:=nth hs) (fun _ _=>rfl) (List.range k) args vs hv)
 rw[←hh]at M1
 rw[List.length_range]at M1 hv1
 rw[hl1]at S
 have sel:∀ {i:Nat} {bd:Bind},zky (List.range k) β i=some bd→i<k ∧ β i=some bd:=by
  intro i bd h
  obtain⟨id,h1,h2⟩:=zkx h
  have hik:i<k:=by have:=(List.getElem?_eq_some_iff.1 h1).1;simpa using this
  rw[List.getElem?_range hik]at h1
  obtain rfl:=Option.some.inj h1
  exact⟨hik,h2⟩
 have hin:∀b,inB (zky (List.range k) β) b→inB β b:=by
  rintro b ⟨i,bd,h1,h2⟩
  exact⟨i,bd,(sel h1).2,h2⟩
 refine(S w _ _ vs M1 hv1).mono ?_
 rintro e w' ⟨v,F',β',rfl,M2,hr,hF,hF',hβ⟩
 rw[hk1]at M2 hr
 have E:Ext (· < k) F' β' w' (· < (hs1'++List.replicate (hs.length-k) Chunk.dead).length) F' (fun i=>if i<k then β' i else none) w' :=
  ⟨fun i hi=>by simp only[List.length_append,List.length_replicate];omega,fun b hb=>⟨hb,rfl⟩,fun i bd hi hb=>⟨_,by simpa[hi]using hb⟩⟩
 have low:∀ {i:Nat} {bd:Bind},(if i<k then β' i else none)=some bd→i<k ∧ β' i=some bd:=by
  intro i bd h
  by_cases hi:i<k
  ·rw[if_pos hi]at h;exact⟨hi,h⟩
  ·rw[if_neg hi]at h;simp at h
 refine⟨v,F',fun i=>if i<k then β' i else none,rfl,⟨M2.size,M2.os,M2.tape,M2.output,fun b hb hn=>M2.frame b hb (fun h=>hn (hin b h)),M2.fin,fun i bd hb => ?_,fun i hd => ?_,fun i j bi bj b hi hj h1 h2=>M2.dis i j bi bj b (low hi).2 (low hj).2 h1 h2,fun i bd b hb hbb => ?_⟩,RelA.mono E _ _ hr,fun b hb=>hF b (.inl hb),fun b hb => ?_,fun i bd hi hb => ?_⟩
 ·exact E.u i (low hb).1
 ·have hik:i<k:=by
   rcases Nat.lt_or_ge i k with h|h
   ·exact h
   ·exfalso
    apply hd
    unfold nth
    rw[List.getD_eq_getElem?_getD,List.getElem?_append_right (by omega),List.getElem?_replicate]
    split<;>rfl
  have e0:nth (hs1'++List.replicate (hs.length-k) Chunk.dead) i=nth hs1' i:=by
   unfold nth
   rw[List.getD_eq_getElem?_getD,List.getElem?_append_left (by omega),List.getD_eq_getElem?_getD]
  rw[e0]at hd ⊢
  obtain⟨bd,h1,h2⟩:=M2.ch i hd
  exact⟨bd,by rw[if_pos hik];exact h1,ChOk.mono E (fun _ _=>rfl) h2⟩
 ·obtain⟨k1,k2,k3⟩:=M2.off i bd b (low hb).2 hbb
  exact⟨k1,k2,k3.imp id (hin b)⟩
 ·rcases hF' b hb with h1|h1|h1
  ·rcases h1 with h1|⟨id,bd,_,_,h2,h3⟩
   ·exact .inl h1
   ·exact .inr (.inr ⟨id,bd,h2,.inl h3⟩)
  ·exact .inr (.inl h1)
  ·exact .inr (.inr (hin b h1))
 ·obtain⟨h1,h2⟩:=low hb
  obtain⟨bs,h3⟩:=hβ i bd h1 h2
  exact⟨bs,(sel h3).2⟩
theorem z1n (Z:List Nat) (h:Nat→Chunk):∀(l:List (Nat × AV)) (t:Nat),look (l.map fun p=>(p.1,fz Z h p.2)) t=fz Z h (look l t)
 | [],t=>by simp only[List.map_nil,look,fz]
 | (k,x)::r,t=>by
  simp only[List.map_cons,look]
  by_cases e:k=t
  ·rw[if_pos e,if_pos e]
  ·rw[if_neg e,if_neg e];exact z1n Z h r t
theorem To.frz {k:Nat} {s:St} (Z:List Nat):ToK k s ⟨s.t.map fun p=>(p.1,fz Z (zae s.h) p.2),zf8 Z++s.h,s.n⟩:=by
 intro H F β a w hk C
 have M:=z8g C.m Z
 have e:zae (zf8 Z++s.h)=fzH Z (zae s.h):=by
  rw[←zjy,zkj]
 refine⟨fzF Z F β,fzB Z β,fun t => ?_,by rw[e];exact M,C.nt,C.d.more fun _ hb => .inl hb,fun b hb => .inl (C.f b hb),fun b hb => ?_,fun i bd hi hb=>C.e i bd hi (zdc hb).2,C.k⟩
 ·simp only[z1n]
  exact zrd C.m (fun _ _=>rfl) Z _ _ (C.t t)
 ·rcases hb with h1|⟨id,bd,_,h2,h3⟩
  ·exact C.g b h1
  ·exact .inr (C.m.off id bd b h2 (.inl h3)).2.2
def xsh (X s:Nat):Nat:=X ^^^ X/s
def mxA (n:Nat):Nat:=(n+11400714819323198485) % 18446744073709551616
def mxB (n:Nat):Nat:=xsh (mxA n) 1073741824*13787848793156543929 % 18446744073709551616
def mxC (n:Nat):Nat:=xsh (mxB n) 134217728*10723151780598845931 % 18446744073709551616
def mx (n:Nat):Nat:=xsh (mxC n) 2147483648
theorem yc0 (X s:Nat) (h:X<18446744073709551616):xsh X s<18446744073709551616:=by
 have hd:X/s≤X:=Nat.div_le_self _ _
 exact Nat.xor_lt_two_pow (n:=64) h (by omega)
theorem yer (n:Nat):mxA n<18446744073709551616:=Nat.mod_lt _ (by decide)
theorem yep (n:Nat):mxB n<18446744073709551616:=Nat.mod_lt _ (by decide)
theorem z8a (n:Nat):mxC n<18446744073709551616:=Nat.mod_lt _ (by decide)
theorem z5o (n:Nat):mx n<18446744073709551616:=yc0 _ _ (z8a n)
theorem yes (n:Nat):IntKind.u64.wrap ((n:Int)+11400714819323198485)=(mxA n:Int):=by
 rw[IntKind.wrap_u64];unfold mxA;rw[Int.natCast_emod,Int.natCast_add];rfl
theorem yc1 (X s:Nat) (h:X<18446744073709551616):bits .xor .u64 (X:Int) ((X:Int)/(s:Int))=(xsh X s:Int):=xorShift_u64 X s h
theorem yeq (n:Nat):IntKind.u64.wrap (bits .xor .u64 (mxA n:Int) ((mxA n:Int)/1073741824)*13787848793156543929)=(mxB n:Int):=mixStep_u64 _ 1073741824 13787848793156543929 (yer n)
theorem yeo (n:Nat):IntKind.u64.wrap (bits .xor .u64 (mxB n:Int) ((mxB n:Int)/134217728)*10723151780598845931)=(mxC n:Int):=mixStep_u64 _ 134217728 10723151780598845931 (yep n)
set_option maxHeartbeats 800000 in
theorem zsy (n:Nat) (w:World) :
 Calls Tryz.prog 150 #[.int .u64 n] w fun e w'=>e = .returned (.int .u64 (mx n))∧w=w':=by
 go_enter Tryz.func150,Tryz.ntmps150
 go_wp2
 go_ret
 refine⟨zso ?_,rfl⟩
 rw[yes,yeq,yeo]
 exact yc1 (mxC n) 2147483648 (z8a n)
theorem yjg (a b:Nat) (ha:a<18446744073709551616) (hb:b<18446744073709551616):bits .xor .u64 (a:Int) (b:Int)=((a ^^^ b:Nat):Int):=bits_xor_u64_nat a b ha hb
theorem z8r (a b:Nat) (ha:a<18446744073709551616) (hb:b<18446744073709551616):a ^^^ b<18446744073709551616:=Nat.xor_lt_two_pow (n:=64) ha hb
set_option maxHeartbeats 800000 in
theorem z35 (m n:Nat) (hm:m<18446744073709551616) (w:World) :
 Calls Tryz.prog 151 #[.int .u64 m,.int .u64 n] w fun e w'=>e = .returned (.int .u64 (m ^^^ mx n:Nat))∧w=w':=by
 have h:=yjg m (mx n) hm (z5o n)
 have H:=Lib.hid h;clear h hm
 go_enter Tryz.func151,Tryz.ntmps151
 go_wp2_with (go_at_call 150;refine(zsy _ _).mono ?_;rintro e w' ⟨rfl,rfl⟩)
 go_ret
 exact⟨zso H.out,rfl⟩
def mb (m:Nat) (b:UInt8):Nat:=mx (m ^^^ b.toNat)
theorem yio (m:Nat) (b:UInt8):mb m b<18446744073709551616:=z5o _
def lf (m:Nat):List UInt8→Nat
 | []=>m
 | b::l=>lf (mb m b) l
theorem ya2 (m:Nat) (l:List UInt8) (b:UInt8):lf m (l ++ [b])=mb (lf m l) b:=by
 induction l generalizing m with
 | nil=>simp only[List.nil_append,lf]
 | cons c l ih=>simp only[List.cons_append,lf,ih]
theorem yiu (l:List UInt8):∀m,m<18446744073709551616→lf m l<18446744073709551616:=by
 induction l with
 | nil=>intro m h;rw[lf];exact h
 | cons b l ih=>intro m _;rw[lf];exact ih _ (yio _ _)
def mz (n:Nat):Nat:=mx n
theorem yig (n:Nat):mz n<18446744073709551616:=z5o _
def z1r (s:ByteArray):Nat:=lf (mz s.size) s.data.toList
theorem yim (n:Nat) (w:World):Calls Tryz.prog 150 #[.int .u64 n] w fun e w'=>e = .returned (.int .u64 (mz n:Nat))∧w=w':=zsy n w
theorem yin (m:Nat) (b:UInt8) (w:World):Calls Tryz.prog 150 #[.int .u64 (m ^^^ b.toNat:Nat)] w fun e w'=>e = .returned (.int .u64 (mb m b:Nat))∧w=w':=zsy _ w
set_option maxRecDepth 20000 in
set_option maxHeartbeats 1000000 in
theorem z53 (s:ByteArray) (w:World) (hs:s.size≤140737488351232) :
 Calls Tryz.prog 119 #[.string s] w fun e w'=>e = .returned (.int .u64 (z1r s:Nat))∧w=w':=by
 have hu:IntKind.u64.wrap (s.size:Int)=s.size:=by rw[IntKind.wrap_u64];omega
 go_enter Tryz.func119,Tryz.ntmps119
 go_wp2_with fail
 refine(yim _ _).mono ?_
 rintro e w' ⟨rfl,rfl⟩
 clear hu
 go_wp2_with fail
 go_loop [3,11] (fun mv iv=>∃k:Nat,k≤s.size∧iv = .int .i64 k∧mv = .int .u64 (lf (mz s.size) (s.data.toList.take k):Nat)) (fun _ iv=>s.size-(intOf iv).toNat)
 case atStart=>exact⟨0,by omega,rfl,by rw[List.take_zero,lf]⟩
 case round =>
  obtain⟨k,hk,rfl,rfl⟩:=hrel
  have hl:=yiu (s.data.toList.take k) _ (yig s.size)
  by_cases h8:k<s.size
  ·have hs1:lf (mz s.size) (s.data.toList.take (k+1))=mb (lf (mz s.size) (s.data.toList.take k)) s[k]:=by rw[zjf s k h8,ya2]
   generalize lf (mz s.size) (s.data.toList.take k)=y at *
   have HS:=PLift.up hs1;clear hs1
   have hx:=UInt8.toNat_lt s[k]
   have hc:IntKind.u64.wrap (s[k].toNat:Int)=(s[k].toNat:Int):=by rw[IntKind.wrap_u64];omega
   have hxo:=yjg y s[k].toNat hl (by omega)
   go_wp2_with fail
   refine(yin _ _ _).mono ?_
   rintro e w' ⟨rfl,rfl⟩
   rw[←HS.down]
   clear hxo hc
   go_wp2_with fail
   go_round
   case rel=>exact⟨k+1,by omega,by go_num,rfl⟩
   case measure=>simp[intOf];omega
  ·obtain rfl:k=s.size:=by omega
   have hf:lf (mz s.size) (s.data.toList.take s.size)=z1r s:=by rw[zud,z1r]
   rw[hf]
   clear hf hl
   go_wp2_with fail
   go_returns
   exact⟨rfl,rfl⟩
end Go.Proofs.YtmjbgbmegbkmhaaGreat
namespace Go.Proofs
open Go.Shelf
def Tryz.lays169_ren:Go.Shelf.Ren:=⟨fun|169=>110|n=>n,fun|70=>226|9=>9|0=>0|72=>229|37=>227|127=>276|3=>3|5=>5|n=>n,fun|n=>n⟩
theorem Tryz.lays169:Go.Proofs.Lays.n169 Tryz.prog Tryz.lays169_ren:={
 mixed:=by kernel_rfl
 f169:=Tryz.func110.trans (congrArg some (by kernel_rfl))
 t0:=Tryz.underlying0
 a0:=Tryz.isAgg0
 z0:=Tryz.sizeOf0
 v0:=Tryz.zeroValue0
 t3:=Tryz.underlying3
 a3:=Tryz.isAgg3
 z3:=Tryz.sizeOf3
 v3:=Tryz.zeroValue3
 t9:=Tryz.underlying9
 a9:=Tryz.isAgg9
 z9:=Tryz.sizeOf9
 v9:=Tryz.zeroValue9
 t37:=Tryz.underlying227
 a37:=Tryz.isAgg227
 z37:=Tryz.sizeOf227
 v37:=Tryz.zeroValue227
 t70:=Tryz.underlying226
 a70:=Tryz.isAgg226
 z70:=Tryz.sizeOf226
 v70:=Tryz.zeroValue226
 t72:=Tryz.underlying229
 a72:=Tryz.isAgg229
 z72:=Tryz.sizeOf229
 v72:=Tryz.zeroValue229
 t127:=Tryz.underlying276
 a127:=Tryz.isAgg276
 z127:=Tryz.sizeOf276
 v127:=Tryz.zeroValue276 }
theorem Tryz.Builder_Extra_169:Builder.Extra Tryz.prog Tryz.lays169_ren:={
 sizeBuilder:=by kernel_rfl
 liesBuilder:=by kernel_rfl
 t5:=Tryz.underlying5
 a5:=Tryz.isAgg5
 z5:=Tryz.sizeOf5
 v5:=Tryz.zeroValue5
 infoByte:=by kernel_rfl
 cellsByte:=by kernel_rfl
 sizeByte:=by kernel_rfl
 neB5:=by decide }
open Go.RowKit in
theorem Tryz.Builder_String_any (B b:Nat) (l:List UInt8) (w:World) (h:Lib.IsBuilder 229 5 B b (Lib.byteCells l) w) (hBw:B≤w.heap.size) :
 Calls Tryz.prog 110 #[.pointer (some ⟨b,0,none⟩)] w fun e w'=>e = .returned (.string ⟨l.toArray⟩)∧Below B w w':=Any.Builder_String_any Tryz.lays169 Tryz.Builder_Extra_169 B b l w h hBw
end Go.Proofs
namespace Go.Proofs.YtmjbgbmegbkmhaaGreat
set_option linter.all false
open Go.RowKit
def sp (n:Nat):Nat:=Lib.bitLen (n-1)-1
def cs (n:Nat):Nat:=n/2 ^^^ (if n % 2=1 then 3988292384 else 0)
def csk:Nat→Nat→Nat
 | 0,n=>n
 | k+1,n=>cs (csk k n)
theorem yfq (n:Nat) (h:n<4294967296):cs n<4294967296:=by
 unfold cs
 refine Nat.xor_lt_two_pow (n:=32) (by omega) ?_
 split<;>decide
theorem z8o (k n:Nat) (h:n<4294967296):csk k n<4294967296:=by
 induction k with
 | zero=>exact h
 | succ k ih=>exact yfq _ ih
theorem x32 (a b:Nat) (ha:a<4294967296) (hb:b<4294967296):bits .xor .u32 (a:Int) (b:Int)=((a ^^^ b:Nat):Int):=u32_xor_nat a b ha hb
theorem z7l (a b:Nat) (ha:a<4294967296) (hb:b<4294967296):a ^^^ b<4294967296:=Nat.xor_lt_two_pow (n:=32) ha hb
def tk (n b:Nat):Nat:=csk 8 (n ^^^ b)
theorem yh3 (n b:Nat) (h:n<4294967296) (hb:b<256):tk n b<4294967296:=z8o 8 _ (z7l n b h (by omega))
theorem yi9 (y:Nat) (h:y<4294967296):bits .xor .u32 ((y:Int)/2) (bits .and .u32 3988292384 (-bits .and .u32 (y:Int) 1 % 4294967296))=((cs y:Nat):Int):=by
 have h1:bits .and .u32 (y:Int) 1=((y % 2:Nat):Int):=by
  have:=u32_and_nat y 1 h (by decide)
  rw[Nat.and_one_is_mod]at this;exact this
 rw[h1]
 have h2:(y:Int)/2=((y/2:Nat):Int):=by omega
 rw[h2]
 unfold cs
 rcases Nat.mod_two_eq_zero_or_one y with h0|h0
 ·rw[h0]
  have e:bits .and .u32 3988292384 (-((0:Nat):Int) % 4294967296)=((0:Nat):Int):=by decide +kernel
  rw[e,x32 _ _ (by omega) (by decide)];simp
 ·rw[h0]
  have e:bits .and .u32 3988292384 (-((1:Nat):Int) % 4294967296)=((3988292384:Nat):Int):=by decide +kernel
  rw[e,x32 _ _ (by omega) (by decide)];simp
set_option maxHeartbeats 800000 in
theorem z4a (n b:Nat) (w:World) (hn:n<4294967296) (hb:b<256) :
 Calls Tryz.prog 171 #[.int .u32 n,.int .u8 b] w fun e w'=>e = .returned (.int .u32 (tk n b:Nat))∧w=w':=by
 have hx:=x32 n b hn (by omega)
 have hl:=z7l n b hn (by omega)
 have e:tk n b=csk 8 (n ^^^ b):=rfl
 generalize n ^^^ b=z at hx hl e
 have E:=Lib.hid e;clear e
 go_enter Tryz.func171,Tryz.ntmps171
 go_wp2_with fail
 go_loop [0,9] (fun m i=>∃k:Nat,k≤8∧i = .int .i64 k∧m = .int .u32 (csk k z:Nat)) (fun _ i=>8-(intOf i).toNat)
 case atStart=>exact⟨0,by omega,rfl,rfl⟩
 case round =>
  obtain⟨k,hk,rfl,rfl⟩:=hrel
  by_cases h8:k<8
  ·have hlk:=z8o k z hl
   have hs:csk (k+1) z=cs (csk k z):=rfl
   generalize csk k z=y at *
   have hls:=yfq y hlk
   have HS:=Lib.hid hs;clear hs
   go_wp2_with fail
   go_round
   case rel=>exact⟨k+1,by omega,by go_num,by rw[HS.out,yi9 y hlk]⟩
   case measure=>simp[intOf];omega
  ·obtain rfl:k=8:=by omega
   go_wp2_with fail
   go_ret
   exact⟨z0j (by rw[E.out]),rfl⟩
def tks (n:Nat) (l:List UInt8):Nat:=l.foldl (fun n b=>tk n b.toNat) n
theorem ydk (l:List UInt8):∀n,n<4294967296→tks n l<4294967296:=by
 induction l with
 | nil=>intro n h;exact h
 | cons b l ih=>intro n h;exact ih _ (yh3 n _ h (UInt8.toNat_lt b))
theorem z39 (n:Nat) (l:List UInt8) (b:UInt8):tks n (l ++ [b])=tk (tks n l) b.toNat:=by simp[tks]
def z6w (n:Nat) (l:List UInt8):Nat:=4294967295-tks (4294967295-n) l
theorem yb3 (n:Nat) (l:List UInt8):z6w n l<4294967296:=by unfold z6w;omega
theorem yek (n:Nat) (h:n<4294967296):bits .xor .u32 IntKind.u32.max (n:Int)=((4294967295-n:Nat):Int):=by
 have e1:IntKind.u32.max=((4294967295:Nat):Int):=by decide
 rw[e1,x32 _ _ (by decide) h]
 congr 1
 have e2:(BitVec.ofNat 32 4294967295 ^^^ BitVec.ofNat 32 n) = ~~~(BitVec.ofNat 32 n):=by
  have:BitVec.ofNat 32 4294967295=BitVec.allOnes 32:=by decide
  rw[this,BitVec.allOnes_xor]
 have e3:=congrArg BitVec.toNat e2
 rw[BitVec.toNat_xor,BitVec.toNat_not,BitVec.toNat_ofNat,BitVec.toNat_ofNat,Nat.mod_eq_of_lt (show n<2 ^ 32 from h)]at e3
 exact e3
set_option maxHeartbeats 800000 in
theorem z5s (n:Nat) (s:ByteArray) (w:World) (hn:n<4294967296) (hs:s.size≤140737488351232) :
 Calls Tryz.prog 145 #[.int .u32 n,.string s] w fun e w'=>e = .returned (.int .u32 (z6w n s.data.toList:Nat))∧w=w':=by
 go_enter Tryz.func145,Tryz.ntmps145
 go_wp2_with fail
 go_loop [0,5,10] (fun m _ i=>∃k:Nat,k≤s.size∧i = .int .i64 k∧m = .int .u32 (tks (4294967295-n) (s.data.toList.take k):Nat)) (fun _ _ i=>s.size-(intOf i).toNat)
 case atStart=>exact⟨0,by omega,rfl,by rw[yek n hn];rfl⟩
 case round =>
  obtain⟨k,hk,rfl,rfl⟩:=hrel
  have hl:=ydk (s.data.toList.take k) (4294967295-n) (by omega)
  by_cases h8:k<s.size
  ·have hs1:tks (4294967295-n) (s.data.toList.take (k+1))=tk (tks (4294967295-n) (s.data.toList.take k)) s[k].toNat:=by rw[zjf s k h8,z39]
   generalize tks (4294967295-n) (s.data.toList.take k)=y at *
   have HS:=Lib.hid hs1;clear hs1
   go_wp2_with (go_at_call 171;refine(z4a _ _ _ hl (UInt8.toNat_lt _)).mono ?_;rintro e w' ⟨rfl,rfl⟩)
   go_round
   case rel=>exact⟨k+1,by omega,by go_num,by rw[HS.out]⟩
   case measure=>simp[intOf];omega
  ·have hke:k=s.size:=by omega
   go_wp2_with fail
   go_ret
   refine⟨z0j ?_,rfl⟩
   rw[hke]at hl
   rw[yek _ hl,z6w,zud]
set_option maxHeartbeats 800000 in
theorem yeh (s:ByteArray) (w:World) (hs:s.size≤140737488351232) :
 Calls Tryz.prog 111 #[.string s] w fun e w'=>e = .returned (.int .u32 (z6w 0 s.data.toList:Nat))∧w=w':=by
 go_enter Tryz.func111,Tryz.ntmps111
 go_wp2_with fail
 refine(z5s 0 s w (by decide) hs).mono ?_
 rintro e w' ⟨rfl,rfl⟩
 go_wp2_with fail
 go_ret
 exact⟨rfl,rfl⟩
def zk0 (n:Nat):List UInt8 := [UInt8.ofNat (n % 256),UInt8.ofNat (n/256 % 256),UInt8.ofNat (n/65536 % 256),UInt8.ofNat (n/16777216 % 256)]
def zg8 (s:ByteArray):ByteArray:=s++⟨(zk0 (z6w 0 s.data.toList)).toArray⟩
theorem zmx (s:ByteArray):(zg8 s).size=s.size+4:=by unfold zg8;rw[ByteArray.size_append];rfl
set_option maxHeartbeats 800000 in
set_option maxRecDepth 100000 in
theorem zn2 (s:ByteArray) (w:World) (hs:s.size≤140737488351232) :
 Calls Tryz.prog 63 #[.string s] w fun e w'=>e = .returned (.string (zg8 s))∧Below w.heap.size w w':=by
 have hS:zg8 s=s++⟨(zk0 (z6w 0 s.data.toList)).toArray⟩:=rfl
 have hl:=yb3 0 s.data.toList
 go_enter Tryz.func63,Tryz.ntmps63
 go_wp2_with fail
 refine(yeh s w hs).mono ?_
 rintro e w' ⟨rfl,rfl⟩
 generalize z6w 0 s.data.toList=n at *
 have hcv:=run_convert_bytes_back (P:=Tryz.prog) (w.alloc (Obj.cells #[Value.int IntKind.u8 ((n:Int) % 256),Value.int IntKind.u8 ((n:Int)/256 % 256),Value.int IntKind.u8 ((n:Int)/65536 % 256),Value.int IntKind.u8 ((n:Int)/16777216)] 5)) 227 9 5 ⟨w.heap.size,0,none⟩ 4 (zk0 n) Tryz.underlying227 Tryz.underlying5 Tryz.underlying9 (by
  intro j hj
  have h1:(UInt8.ofNat (n % 256)).toNat=n % 256:=zba _ (by omega)
  have h2:(UInt8.ofNat (n/256 % 256)).toNat=n/256 % 256:=zba _ (by omega)
  have h3:(UInt8.ofNat (n/65536 % 256)).toNat=n/65536 % 256:=zba _ (by omega)
  have h4:(UInt8.ofNat (n/16777216 % 256)).toNat=n/16777216 % 256:=zba _ (by omega)
  have hjl:j<4:=hj
  rw[Addr.add_lit]
  match j,hjl with
  | 0,_=>simp only[zk0,List.getElem_cons_zero,h1];simp[go_sem]
  | 1,_=>simp only[zk0,List.getElem_cons_succ,List.getElem_cons_zero,h2];simp[go_sem]
  | 2,_=>simp only[zk0,List.getElem_cons_succ,List.getElem_cons_zero,h3];simp[go_sem]
  | 3,_=>simp only[zk0,List.getElem_cons_succ,List.getElem_cons_zero,h4];simp[go_sem];omega)
 have e4:(zk0 n).length=4:=rfl
 rw[e4]at hcv
 have hsz:(ByteArray.mk (zk0 n).toArray).size=4:=rfl
 have HS:=Lib.hid hS;clear hS
 obtain⟨T,hT⟩:∃T,T=ByteArray.mk (zk0 n).toArray:=⟨_,rfl⟩
 rw[←hT]at hcv hsz
 have HT:=Lib.hid hT;clear hT e4
 go_wp2_with fail
 go_ret
 refine⟨congrArg Ending.returned (congrArg Value.string ?_),by go_grown⟩
 rw[HS.out,HT.out]
def zb1:Nat→Nat→List UInt8
 | 0,n => [UInt8.ofNat n]
 | f+1,n=>if n<128 then [UInt8.ofNat n]else UInt8.ofNat (128+n % 128)::zb1 f (n/128)
def zgs (n:Nat):List UInt8:=zb1 9 n
def ziw (n:Nat):ByteArray:=⟨(zgs n).toArray⟩
theorem zh2 (f n:Nat):1≤(zb1 f n).length∧(zb1 f n).length≤f+1:=by
 induction f generalizing n with
 | zero=>simp[zb1]
 | succ f ih =>
  have:=ih (n/128)
  simp only[zb1];split<;>simp<;>omega
theorem zxz (n:Nat):1≤(ziw n).size∧(ziw n).size≤10:=by
 have:=zh2 9 n
 show 1≤(zb1 9 n).toArray.size∧(zb1 9 n).toArray.size≤10
 simpa using this
theorem zsu (f n:Nat) (h:n<128):zb1 f n = [UInt8.ofNat n]:=by cases f<;>simp[zb1,h]
def zf6 (n:Int):Nat:=if 0≤n then (2*n).toNat else (2*(-(n+1))+1).toNat
def z31 (n:Nat):Int:=if n % 2=0 then (n/2:Nat)else -((n/2:Nat):Int)-1
theorem zwb (n:Int) (h:I64 n):zf6 n<18446744073709551616:=by unfold I64 at h;unfold zf6;split<;>omega
theorem z3x (a:Nat) (h:a<18446744073709551616):bits .xor .u64 (a:Int) (18446744073709551615:Int)=((18446744073709551615-a:Nat):Int):=by
 have e1:(18446744073709551615:Int)=((18446744073709551615:Nat):Int):=rfl
 rw[e1,u64_xor_nat a _ h (by decide)]
 congr 1
 have e3:=congrArg BitVec.toNat (BitVec.xor_allOnes (x:=BitVec.ofNat 64 a))
 rw[BitVec.toNat_xor,BitVec.toNat_not,BitVec.toNat_ofNat,BitVec.toNat_allOnes,Nat.mod_eq_of_lt (show a<2 ^ 64 from h)]at e3
 exact e3
theorem zw3 (a:Nat) (h:a<18446744073709551616):bits .xor .u64 (a:Int) (0:Int)=(a:Int):=by
 have e1:(0:Int)=((0:Nat):Int):=rfl
 rw[e1,u64_xor_nat a _ h (by decide)]
 simp
theorem zpj (x:Nat) (hx:x<9223372036854775808):bits .xor .i64 (x:Int) (-1) = -(x:Int)-1:=by
 show IntKind.i64.wrap ((BitVec.ofInt 64 (x:Int) ^^^ BitVec.ofInt 64 (-1)).toNat:Int)=_
 rw[BitVec.xor_comm]
 exact Lib.i64_not x hx
theorem zpi (x:Nat) (hx:x<9223372036854775808):bits .xor .i64 (x:Int) 0=(x:Int):=by
 show IntKind.i64.wrap ((BitVec.ofInt 64 (x:Int) ^^^ BitVec.ofInt 64 0).toNat:Int)=_
 rw[show BitVec.ofInt 64 0=0#64 from by decide,BitVec.xor_zero,BitVec.ofInt_natCast,BitVec.toNat_ofNat,IntKind.wrap_i64]
 omega
set_option maxHeartbeats 800000 in
theorem z6j (n:Int) (h:I64 n) (w:World) :
 Calls Tryz.prog 109 #[.int .i64 n] w fun e w'=>e = .returned (.int .u64 (zf6 n:Nat))∧w=w':=by
 unfold I64 at h
 go_enter Tryz.func109,Tryz.ntmps109
 go_wp2_with fail
 go_returns
 refine⟨zso ?_,rfl⟩
 unfold zf6
 simp only[IntKind.wrap_u64]
 by_cases h0:0≤n
 ·rw[if_pos h0,show n/9223372036854775808 % 18446744073709551616=0 from by omega,show n % 18446744073709551616*2 % 18446744073709551616=(((2*n).toNat:Nat):Int)from by omega,zw3 _ (by omega)]
 ·rw[if_neg h0,show n/9223372036854775808 % 18446744073709551616=18446744073709551615 from by omega,show n % 18446744073709551616*2 % 18446744073709551616=(((2*n+18446744073709551616).toNat:Nat):Int)from by omega,z3x _ (by omega)]
  omega
set_option maxHeartbeats 800000 in
theorem zw6 (n:Nat) (h:n<18446744073709551616) (w:World) :
 Calls Tryz.prog 82 #[.int .u64 n] w fun e w'=>e = .returned (.int .i64 (z31 n))∧w=w':=by
 go_enter Tryz.func82,Tryz.ntmps82
 go_wp2_with fail
 go_returns
 refine⟨z0k ?_,rfl⟩
 rw[Lib.u64_and1 _ (by omega) (by omega)]
 unfold z31 wrap64
 by_cases h0:n % 2=0
 ·rw[if_pos h0,show ((n:Int) % 2)=0 from by omega,show ((n:Int)/2)=((n/2:Nat):Int)from by omega]
  exact zpi _ (by omega)
 ·rw[if_neg h0,show ((n:Int) % 2)=1 from by omega,show ((n:Int)/2)=((n/2:Nat):Int)from by omega]
  exact zpj _ (by omega)
def bC (l:List UInt8):List Value:=l.map fun b => .int .u8 (b.toNat:Int)
theorem yia (m:Nat):bits .or .u8 ((m:Int) % 256) 128=((128+m % 128:Nat):Int):=by
 rw[Lib.u8_or128_any _ (by omega) (by omega)];omega
set_option maxHeartbeats 1000000 in
set_option maxRecDepth 20000 in
theorem zn5 (n:Nat) (h:n<18446744073709551616) (w:World) :
 Calls Tryz.prog 108 #[.int .u64 n] w fun e w'=>e = .returned (.string (ziw n))∧Below w.heap.size w w':=by
 go_enter Tryz.func108,Tryz.ntmps108
 go_wp2_with fail
 go_loopw [0,3] (fun mv v wr=>∃(m f:Nat) (done:List UInt8),mv = .int .u64 m∧m<18446744073709551616∧Hid (m<128 ^ (f+1)∧done++zb1 f m=zgs n∧done.length+f=9∧wr.ownsRow w.heap.size 5 1 v done.length (bC done)∧Below w.heap.size w wr)) (fun mv _ _=>(intOf mv).toNat)
 case atStart=>exact⟨n,9,[],rfl,h,by simpa using Nat.lt_of_lt_of_le h (by decide),rfl,rfl,⟨by simp[bC],.inl ⟨rfl,rfl⟩⟩,Below.refl _ _⟩
 case round =>
  obtain⟨m,f,done,rfl,hm,hI⟩:=hrel
  have hor:=yia m
  have hdl:done.length≤9:=by have:=hI.out.2.2.1;omega
  have hB:=hI.out.2.2.2.2.size
  by_cases h8:128≤m
  ·obtain⟨f,rfl⟩:∃f',f=f'+1:=by
    cases f with
    | zero=>have:=hI.out.1;simp at this;omega
    | succ f=>exact⟨f,rfl⟩
   have HI:=PLift.up hI.out
   clear hI
   go_wp2_with (at_builtin;refine z8t _ rfl _ _ _ rfl w.heap.size _ _ _ z8l _ done.length (bC done) rfl (HI.down.2.2.2.1.alloc _) (some ⟨wr.heap.size,0,none⟩) 1 1 [.int .u8 ((128+m % 128:Nat):Int)] rfl ?_ ?_ ?_ ?_ ?_ ?_ ?_ ?_)
   ·rfl
   ·simp
   ·intro ad had j u hu
    obtain rfl:=Option.some.inj had
    match j,hu with
    | 0,hu=>simp at hu;subst hu;simp[Addr.add_lit,go_sem]
    | j+1,hu=>simp at hu
   ·simp[Value.oneCell']
   ·simp only[maxLen];omega
   ·omega
   ·simp;omega
   ·intro v' w2 hown hg _
    have hbb:Below w.heap.size w w2:=(HI.down.2.2.2.2.alloc (by omega) _).grown hg (by simp;omega) (fun q hq=>(HI.down.2.2.2.1.lt q hq).1)
    have HO:=PLift.up hown
    have HBB:=PLift.up hbb
    clear hown hbb hg
    go_wp2_with fail
    go_roundw
    case rel =>
     have hp:zb1 (f+1) m=UInt8.ofNat (128+m % 128)::zb1 f (m/128):=by simp[zb1];omega
     refine⟨m/128,f,done ++ [UInt8.ofNat (128+m % 128)],?_,by omega,?_,?_,?_,?_,HBB.down⟩
     ·simp
     ·have:=HI.down.1;rw[Nat.pow_succ]at this;exact Nat.div_lt_of_lt_mul (by omega)
     ·have:=HI.down.2.1;rw[hp]at this;simpa using this
     ·have:=HI.down.2.2.1;simp;omega
     ·have:=HO.down
      have e:bC (done ++ [UInt8.ofNat (128+m % 128)])=bC done ++ [.int .u8 ((128+m % 128:Nat):Int)]:=by
       simp only[bC,List.map_append,List.map_cons,List.map_nil]
       rw[zba _ (by omega)]
      rw[e];simpa using this
    case measure=>simp[intOf];omega
  ·have HI:=PLift.up hI.out
   clear hI
   go_wp2_with (at_builtin;refine z8t _ rfl _ _ _ rfl w.heap.size _ _ _ z8l _ done.length (bC done) rfl (HI.down.2.2.2.1.alloc _) (some ⟨wr.heap.size,0,none⟩) 1 1 [.int .u8 (m:Int)] rfl ?_ ?_ ?_ ?_ ?_ ?_ ?_ ?_)
   ·rfl
   ·simp
   ·intro ad had j u hu
    obtain rfl:=Option.some.inj had
    match j,hu with
    | 0,hu=>simp at hu;subst hu;simp[Addr.add_lit,go_sem]
    | j+1,hu=>simp at hu
   ·simp[Value.oneCell']
   ·simp only[maxLen];omega
   ·omega
   ·simp;omega
   ·intro v' w2 hown hg _
    have hbb:Below w.heap.size w w2:=(HI.down.2.2.2.2.alloc (by omega) _).grown hg (by simp;omega) (fun q hq=>(HI.down.2.2.2.1.lt q hq).1)
    have hfin:done ++ [UInt8.ofNat m]=zgs n:=by have:=HI.down.2.1;rw[zsu f m (by omega)]at this;exact this
    have e:bC done ++ [.int .u8 (m:Int)]=bC (zgs n):=by
     rw[←hfin]
     simp only[bC,List.map_append,List.map_cons,List.map_nil]
     rw[zba _ (by omega)]
    have hlen:done.length+1=(zgs n).length:=by rw[←hfin];simp
    rw[e,hlen]at hown
    rcases hown.2 with ⟨_,h0⟩|⟨g,cap,cur,rfl,_,hgc,_⟩
    ·omega
    have hcell:=hown.cells (g:=g) rfl
    have hcv:=run_convert_bytes_back (P:=Tryz.prog) w2 227 9 5 ⟨g,0,none⟩ cap (zgs n) Tryz.underlying227 Tryz.underlying5 Tryz.underlying9 (by
     intro j hj
     exact hcell j _ (by simp only[bC,List.getElem?_map,List.getElem?_eq_getElem hj,Option.map_some]))
    have HBB:=PLift.up hbb
    clear hown hbb hg hcell e hfin HI hgc
    generalize hq:(zgs n).length=q at *
    clear hlen hdl hB
    go_wp2_with fail
    go_returns
    exact⟨rfl,HBB.down⟩
def zcs (s:ByteArray):ByteArray × Int :=
 if s.size<4 then (⟨#[]⟩,3)else if zg8 (s.extract 0 (s.size-4))=s then (s.extract 0 (s.size-4),0)else (⟨#[]⟩,5)
theorem zrj (s:ByteArray) (h:4≤s.size):(s.extract 0 (s.size-4)).size=s.size-4:=by rw[ByteArray.size_extract];omega
set_option maxHeartbeats 800000 in
theorem z5d (s:ByteArray) (w:World) (hs:s.size≤140737488351232) :
 Calls Tryz.prog 35 #[.string s] w fun e w'=>e = .returned (.tuple #[.string (zcs s).1,.int .i64 (zcs s).2])∧Below w.heap.size w w':=by
 by_cases h4:s.size<4
 ·have hr:zcs s=(⟨#[]⟩,3):=by simp[zcs,h4]
  rw[hr]
  go_enter Tryz.func35,Tryz.ntmps35
  go_wp2_with fail
  go_ret2
  exact⟨rfl,Below.refl _ _⟩
 ·have hex:=zrj s (by omega)
  by_cases hq:zg8 (s.extract 0 (s.size-4))=s
  ·have hr:zcs s=(s.extract 0 (s.size-4),0):=by simp[zcs,h4,hq]
   rw[hr]
   have HQ:=Lib.hid hq;clear hq hr
   go_enter Tryz.func35,Tryz.ntmps35
   go_wp2_with fail
   refine(zn2 _ _ (by omega)).mono ?_
   rintro e w1 ⟨rfl,hb⟩
   rw[HQ.out]
   have HB:=Lib.hid hb;clear hb
   go_wp2_with fail
   go_ret2
   exact⟨rfl,HB.out⟩
  ·have hr:zcs s=(⟨#[]⟩,5):=by simp[zcs,h4,hq]
   rw[hr]
   go_enter Tryz.func35,Tryz.ntmps35
   go_wp2_with fail
   refine(zn2 _ _ (by omega)).mono ?_
   rintro e w1 ⟨rfl,hb⟩
   have HB:=Lib.hid hb;clear hb hr hex
   generalize zg8 (s.extract 0 (s.size-4))=t at *
   have hne:=z7x hq
   clear hq
   go_wp2_with fail
   go_ret2
   exact⟨rfl,HB.out⟩
def vals (l:List UInt8):Nat:=l.foldr (fun b a=>b.toNat % 128+128*a) 0
theorem zr5 (l k:List UInt8):vals (l++k)=vals l+128 ^ l.length*vals k:=by
 induction l with
 | nil=>simp[vals]
 | cons b l ih =>
  have e:vals (b::l++k)=b.toNat % 128+128*vals (l++k):=rfl
  have e2:vals (b::l)=b.toNat % 128+128*vals l:=rfl
  rw[e,e2,ih,List.length_cons,Nat.pow_succ,Nat.mul_add,Nat.mul_comm (128 ^ l.length) 128,Nat.mul_assoc];omega
theorem z82 (l:List UInt8):vals l<128 ^ l.length:=by
 induction l with
 | nil=>simp[vals]
 | cons b l ih =>
  have e2:vals (b::l)=b.toNat % 128+128*vals l:=rfl
  rw[e2,List.length_cons,Nat.pow_succ];omega
def zmd (s:ByteArray) (i:Nat):Nat:=vals (s.data.toList.take i) % 18446744073709551616
def zgk (s:ByteArray):Nat × ByteArray × Int :=
 match s.data.toList.findIdx? (fun b=>b<128)with
 | some i=>if i<10∧ziw (zmd s (i+1))=s.extract 0 (i+1)then (zmd s (i+1),s.extract (i+1) s.size,0)else (0,⟨#[]⟩,4)
 | none=>(0,⟨#[]⟩,if s.size<10 then 3 else 4)
def yk5 (s:ByteArray) (i:Nat):Prop:=∃h:i<s.size,s[i].toNat<128∧∀j (hj:j<i),128≤(s[j]'(by omega)).toNat
theorem z2o (s:ByteArray) (i:Nat) (h:i<s.size):s.data.toList[i]'(by simpa using h)=s[i]:=rfl
theorem z3a (s:ByteArray):(∃i,yk5 s i∧s.data.toList.findIdx? (fun b=>b<128)=some i)∨((∀j (hj:j<s.size),128≤s[j].toNat)∧s.data.toList.findIdx? (fun b=>b<128)=none):=by
 cases h:s.data.toList.findIdx? (fun b=>b<128)with
 | some i =>
  refine .inl ⟨i,?_,rfl⟩
  rw[List.findIdx?_eq_some_iff_getElem]at h
  obtain⟨hi,h1,h2⟩:=h
  refine⟨by simpa using hi,?_,fun j hj => ?_⟩
  ·have h1':(s.data[i]'(by simpa using hi)).toNat<128:=by simpa[UInt8.lt_iff_toNat_lt]using h1
   exact h1'
  ·have:=h2 j hj
   have hi':i<s.data.size:=by simpa using hi
   have h2':128≤(s.data[j]'(by omega)).toNat:=by simpa[UInt8.lt_iff_toNat_lt]using this
   exact h2'
 | none =>
  refine .inr ⟨fun j hj => ?_,rfl⟩
  rw[List.findIdx?_eq_none_iff]at h
  have:=h s[j] (by rw[←z2o s j hj];exact List.getElem_mem _)
  simpa[UInt8.lt_iff_toNat_lt]using this
theorem zzd (s:ByteArray):zmd s 0=0:=rfl
theorem zze (s:ByteArray) (i:Nat) (h:i<s.size) (h9:i<10):zmd s (i+1)=zmd s i+s[i].toNat % 128*128 ^ i % 18446744073709551616∧zmd s i<128 ^ i∧128 ^ i*2≤18446744073709551616:=by
 unfold zmd
 rw[zjf s i h,zr5]
 have hl:(s.data.toList.take i).length=i:=by simp;omega
 have hv:=z82 (s.data.toList.take i)
 rw[hl]at hv ⊢
 have e:vals [s[i]]=s[i].toNat % 128:=by simp[vals]
 rw[e]
 have hp:128 ^ i*2≤18446744073709551616:=by
  have:128 ^ i≤128 ^ 9:=Nat.pow_le_pow_right (by decide) (by omega)
  omega
 generalize vals (s.data.toList.take i)=v at *
 have hm:v % 18446744073709551616=v:=Nat.mod_eq_of_lt (by omega)
 rw[hm]
 refine⟨?_,hv,hp⟩
 rw[Nat.mul_comm (128 ^ i)]
 generalize s[i].toNat % 128=x at *
 have hdv:∃q,18446744073709551616=128 ^ i*q:=by
  refine⟨2 ^ (64-7*i),?_⟩
  rw[show (128:Nat)=2 ^ 7 from rfl,←Nat.pow_mul,←Nat.pow_add,show 7*i+(64-7*i)=64 from by omega]
 obtain⟨q,hq⟩:=hdv
 rw[hq,Nat.mul_comm x,Nat.mul_mod_mul_left,Nat.add_mod,Nat.mul_mod_mul_left,Nat.mod_eq_of_lt (show v<128 ^ i*q from by rw[←hq];omega)]
 have hq0 : 0 < q := by rcases Nat.eq_zero_or_pos q with rfl | h0; · simp at hq
                        ·exact h0
 have hxq:x % q<q:=Nat.mod_lt _ hq0
 apply Nat.mod_eq_of_lt
 have:128 ^ i*(x % q)+128 ^ i≤128 ^ i*q:=by rw[←Nat.mul_succ];exact Nat.mul_le_mul_left _ hxq
 omega
theorem zv6 {s:ByteArray} {i:Nat} (h:s.data.toList.findIdx? (fun b=>b<128)=some i):zgk s=if i<10∧ziw (zmd s (i+1))=s.extract 0 (i+1)then (zmd s (i+1),s.extract (i+1) s.size,0)else (0,⟨#[]⟩,4):=by simp[zgk,h]
theorem z2m {s:ByteArray} (h:s.data.toList.findIdx? (fun b=>b<128)=none):zgk s=(0,⟨#[]⟩,if s.size<10 then 3 else 4):=by simp[zgk,h]
structure Ends (s : ByteArray) (e : Nat) (r : Nat × ByteArray × Int) : Prop where
 le:e≤s.size
 big:∀j (hj:j<s.size),j<e→128≤s[j].toNat
 small:∀(h:e<s.size),s[e].toNat<128
 res:zgk s=r
theorem zwg (s:ByteArray):∃e r,Ends s e r∧(e<s.size→r=if e<10∧ziw (zmd s (e+1))=s.extract 0 (e+1)then (zmd s (e+1),s.extract (e+1) s.size,0)else (0,⟨#[]⟩,4))∧(e=s.size→r=(0,⟨#[]⟩,if s.size<10 then 3 else 4)):=by
 rcases z3a s with ⟨i,⟨h1,h2,h3⟩,h4⟩|⟨h1,h2⟩
 ·exact⟨i,_,⟨by omega,fun j _ hj=>h3 j hj,fun _=>h2,rfl⟩,fun _=>zv6 h4,fun h=>by omega⟩
 ·exact⟨s.size,_,⟨Nat.le_refl _,fun j hj _=>h1 j hj,fun h=>absurd h (Nat.lt_irrefl _),rfl⟩,fun h=>absurd h (Nat.lt_irrefl _),fun _=>z2m h2⟩
set_option maxHeartbeats 2000000 in
set_option maxRecDepth 20000 in
theorem z2l (s:ByteArray) (w:World) (hs:s.size≤140737488351232) :
 Calls Tryz.prog 81 #[.string s] w fun e w'=>e = .returned (.tuple #[.int .u64 (zgk s).1,.string (zgk s).2.1,.int .i64 (zgk s).2.2])∧Below w.heap.size w w':=by
 obtain⟨e,r,hE,hr1,hr2⟩:=zwg s
 rw[hE.res]
 have HE:=PLift.up hE
 have HR1:=PLift.up hr1
 have HR2:=PLift.up hr2
 have hle:=hE.le
 clear hE hr1 hr2
 go_enter Tryz.func81,Tryz.ntmps81
 go_wp2_with fail
 go_loop [5,6] (fun nv iv=>∃k:Nat,k≤e∧k≤10∧iv = .int .i64 k∧nv = .int .u64 (zmd s k)) (fun _ iv=>10-(intOf iv).toNat)
 case atStart=>exact⟨0,by omega,by omega,rfl,by rw[zzd];rfl⟩
 case round =>
  obtain⟨k,hk,hk10,rfl,rfl⟩:=hrel
  by_cases hlt:k<10
  ·by_cases hks:k<s.size
   ·obtain⟨hv1,hv2,hv3⟩:=zze s k hks hlt
    have hb:k<e→128≤s[k].toNat:=fun h=>HE.down.big k hks h
    have hsm:¬k<e→s[k].toNat<128:=(fun h=>by
     obtain rfl:k=e:=by omega
     exact HE.down.small hks)
    have hx:=UInt8.toNat_lt s[k]
    have hn:bits .or .u64 (zmd s k:Nat) (IntKind.u64.wrap (IntKind.u64.wrap (bits .and .u8 (s[k].toNat:Int) 127)*2 ^ (7*k)))=((zmd s (k+1):Nat):Int):=by
     rw[u8_and127 _ (by omega) (by omega),IntKind.wrap_u64,IntKind.wrap_u64,hv1]
     have e1:((s[k].toNat:Int) % 128 % 18446744073709551616)=((s[k].toNat % 128:Nat):Int):=by omega
     have e2:((2:Int) ^ (7*k))=((128 ^ k:Nat):Int):=by rw[show (128:Nat) ^ k=2 ^ (7*k)from by rw[Nat.pow_mul]];simp
     rw[e1,e2,←Int.natCast_mul]
     have e3:((s[k].toNat % 128*128 ^ k:Nat):Int) % 18446744073709551616=((s[k].toNat % 128*128 ^ k % 18446744073709551616:Nat):Int):=by omega
     rw[e3,u64_or_nat _ _ (by omega) (by omega)]
     congr 1
     rw[Nat.or_comm,nat_join (7*k) _ _ ?_ ?_,Nat.add_comm]
     ·rw[show (2:Nat) ^ (7*k)=128 ^ k from by rw[Nat.pow_mul]]
      have hd:128 ^ k ∣ 18446744073709551616:=by
       refine⟨2 ^ (64-7*k),?_⟩
       rw[show (128:Nat)=2 ^ 7 from rfl,←Nat.pow_mul,←Nat.pow_add,show 7*k+(64-7*k)=64 from by omega]
      rw[Nat.mod_mod_of_dvd _ hd];exact Nat.mul_mod_left _ _
     ·rw[show (2:Nat) ^ (7*k)=128 ^ k from by rw[Nat.pow_mul]];exact hv2
    have hvl:zmd s (k+1)<18446744073709551616:=Nat.mod_lt _ (by decide)
    clear hv1 hv2 hv3
    by_cases hke:k<e
    ·have hbx:=hb hke
     clear hb hsm
     go_wp2_with fail
     go_round
     case rel=>exact⟨k+1,by omega,by omega,by go_num,rfl⟩
     case measure=>simp[intOf];omega
    ·have hsx:=hsm hke
     obtain rfl:k=e:=by omega
     clear hb hsm
     have hr:=HR1.down hks
     have k0:(0:Int)≤(k:Int)+1:=by omega
     have k1:(k:Int)+1≤(s.size:Int):=by omega
     have k2:IntKind.i64.wrap ((k:Int)+1)=(k:Int)+1:=IntWalk.i64_in _ (by omega)
     have k3:((k:Int)+1).toNat=k+1:=by omega
     by_cases hq:ziw (zmd s (k+1))=s.extract 0 (k+1)
     ·rw[if_pos ⟨hlt,hq⟩]at hr
      subst hr
      have P:=PLift.up (fun w=>zn5 (zmd s (k+1)) hvl w)
      rw[hq]at P
      clear hq
      go_wp2_with fail
      go_region_held3 (fun _=>True) (trivial) (first|(go_at_call 108;refine(P.down _).mono ?_;rintro e w1 ⟨rfl,hb1⟩;have HB1:=PLift.up hb1;clear hb1))
      all_goals go_wp2_with fail
      all_goals(go_quiet (fail))
      all_goals go_wp2_with fail
      all_goals go_returns
      all_goals refine⟨?_,((Below.refl _ _).drew.trans HB1.down).drewn _⟩
      all_goals(simp;done)
     ·rw[if_neg (fun h=>hq h.2)]at hr
      subst hr
      have P:=PLift.up (fun w=>zn5 (zmd s (k+1)) hvl w)
      generalize ziw (zmd s (k+1))=T at *
      have hne:=z7x hq
      clear hq
      go_wp2_with fail
      go_region_held3 (fun _=>True) (trivial) (first|(go_at_call 108;refine(P.down _).mono ?_;rintro e w1 ⟨rfl,hb1⟩;have HB1:=PLift.up hb1;clear hb1))
      all_goals go_wp2_with fail
      all_goals go_returns
      all_goals refine⟨?_,(Below.refl _ _).drew.trans HB1.down⟩
      all_goals(simp;done)
   ·have hr:=HR2.down (by omega)
    have hif:(if s.size<10 then (3:Int)else 4)=3:=if_pos (by omega)
    rw[hif]at hr
    subst hr
    go_wp2_with fail
    go_returns
    exact⟨rfl,Below.refl _ _⟩
  ·by_cases hks:k<s.size
   ·have hr:r=(0,⟨#[]⟩,4):=by
     by_cases he:e<s.size
     ·rw[HR1.down he,if_neg (by omega)]
     ·rw[HR2.down (by omega),if_neg (by omega)]
    subst hr
    go_wp2_with fail
    go_returns
    exact⟨rfl,Below.refl _ _⟩
   ·have hr:=HR2.down (by omega)
    have hif:(if s.size<10 then (3:Int)else 4)=4:=if_neg (by omega)
    rw[hif]at hr
    subst hr
    go_wp2_with fail
    go_returns
    exact⟨rfl,Below.refl _ _⟩
theorem z3h:(Tryz.prog.info? 229).map (·.size)=some 2:=by kernel_rfl
set_option maxHeartbeats 1000000 in
set_option maxRecDepth 100000 in
theorem zmp (b:Nat) (w:World) (h0:w.cell? ⟨b,0,none⟩=some (.pointer (some ⟨b,0,none⟩))) :
 Calls Tryz.prog 144 #[.pointer (some ⟨b,0,none⟩)] w fun e w'=>e = .returned (.tuple #[])∧w'=w:=by
 obtain⟨j,hj,_⟩:=Option.map_eq_some_iff.1 z3h
 go_enter Tryz.func144,Tryz.ntmps144
 go_wp2
 rw[Lib.run_neq_ptr_same w _ Tryz.underlying226 hj]
 go_wp2
 go_end0
 exact⟨rfl,rfl⟩
set_option maxHeartbeats 1000000 in
set_option maxRecDepth 100000 in
theorem zl6 (b:Nat) (w:World) (h0:w.cell? ⟨b,0,none⟩=some (.pointer none)) (hsh:w.shape? b=some (229,2)) (hfz:w.frozen? ⟨b,0,none⟩=false) :
 Calls Tryz.prog 144 #[.pointer (some ⟨b,0,none⟩)] w fun e w'=>e = .returned (.tuple #[])∧w'=w.setCell ⟨b,0,none⟩ (.pointer (some ⟨b,0,none⟩)):=by
 obtain⟨j,hj,hjs⟩:=Option.map_eq_some_iff.1 z3h
 go_enter Tryz.func144,Tryz.ntmps144
 go_wp2
 rw[Lib.run_to_unsafe w ⟨b,0,none⟩ Tryz.underlying226 Tryz.underlying310 hj (by rw[hjs];decide) hsh (Nat.zero_lt_succ 1)]
 simp only[Result.andThen]
 rw[Oper.upon_value]
 go_wp2
 rw[run_callFunc_extern Tryz.func170 (by kernel_rfl) (by kernel_rfl) (by kernel_rfl) (e:=Extern.AbiNoEscape.same) (by kernel_rfl)]
 rw[Lib.run_noEscape]
 simp only[Result.andThen]
 rw[Oper.upon_value]
 go_wp2
 rw[Lib.run_from_unsafe w ⟨b,0,none⟩ Tryz.underlying310 Tryz.underlying226 hj hsh (by kernel_rfl)]
 simp only[Result.andThen]
 rw[Oper.upon_value]
 go_wp2
 go_end0
 exact⟨rfl,rfl⟩
theorem z3g (B b:Nat) (bs:List Value) (w:World) (h:Lib.IsBuilder 229 5 B b bs w) :
 Calls Tryz.prog 144 #[.pointer (some ⟨b,0,none⟩)] w fun e w'=>e = .returned (.tuple #[])∧(Lib.BuilderAt 229 5 B b (.pointer (some ⟨b,0,none⟩)) bs w'∧Below B w w'):=by
 rcases h with h|h
 ·refine(zl6 b w h.cell0 h.shape h.frozen0).mono ?_
  rintro e w' ⟨rfl,rfl⟩
  exact⟨rfl,h.used _,(Below.refl B w).setCell (p:=⟨b,0,none⟩) h.1 _⟩
 ·refine(zmp b w h.cell0).mono ?_
  rintro e w' ⟨rfl,rfl⟩
  exact⟨rfl,h,Below.refl B _⟩
set_option maxHeartbeats 2000000 in
set_option maxRecDepth 100000 in
theorem zrs (B b:Nat) (bs:List Value) (s:ByteArray) (w:World) (h:Lib.IsBuilder 229 5 B b bs w) (hlen:bs.length+s.size≤140737488355328) (hBw:B≤w.heap.size) :
 Calls Tryz.prog 107 #[.pointer (some ⟨b,0,none⟩),.string s] w fun e w'=>e = .returned (.tuple #[.int .i64 s.size,.nilIface])∧(Lib.BuilderAt 229 5 B b (.pointer (some ⟨b,0,none⟩)) (bs++Lib.strCells s) w'∧Below B w w'):=by
 obtain⟨i0,hi,hz0,hz1,hz2⟩:=info_parts (show (Tryz.prog.info? 5).map (fun i=>(i.zero,i.size,i.bytes))=some (some (.int .u8 0),1,1)by kernel_rfl)
 go_enter Tryz.func107,Tryz.ntmps107
 go_wp2_with (go_at_call 144;refine(z3g B b bs _ h).mono ?_)
 rintro e w1 ⟨rfl,h1,hb1⟩
 obtain⟨hB,v,hbk,hown,hne⟩:=h1
 have c0:w1.cell? ⟨b,0,none⟩=some (.pointer (some ⟨b,0,none⟩)):=by rw[Lib.cell_of_heap hbk];rfl
 have c1:w1.cell? ⟨b,1,none⟩=some v:=by rw[Lib.cell_of_heap hbk];rfl
 go_wp2_with (at_builtin;refine Lib.wpList_append_own_string _ rfl _ _ 227 9 rfl B 5 i0 Tryz.underlying227 Tryz.underlying9 hi hz0 hz1 hz2 _ _ _ rfl hown s rfl ?c3 ?c4 ?c5 ?_)
 case c3=>unfold maxLen;omega
 case c4=>omega
 case c5=>have:=hb1.size;omega
 intro v' w2 hown' hgrow _
 have hlt:b<w1.heap.size:=by
  rcases Nat.lt_or_ge b w1.heap.size with h'|h'
  ·exact h'
  ·simp[Array.getElem?_eq_none h']at hbk
 have hb2:w2.heap[b]? = some (.cells #[.pointer (some ⟨b,0,none⟩),v] 229 (0,0)):=by
  rw[hgrow.block b hlt (fun e=>hne e.symm)]
  exact hbk
 have d0:w2.cell? ⟨b,0,none⟩=some (.pointer (some ⟨b,0,none⟩)):=by rw[Lib.cell_of_heap hb2];rfl
 have d1:w2.cell? ⟨b,1,none⟩=some v:=by rw[Lib.cell_of_heap hb2];rfl
 have f1:w2.frozen? ⟨b,1,none⟩=false:=Lib.frozen_of_heap hb2 1
 obtain⟨ao,n',cap,rfl⟩:∃ao n' cap,v' = .slice ao n' cap:=by
  rcases hown'.2 with ⟨hv,_⟩|⟨g,cap,cur,hv,_⟩
  ·exact⟨_,_,_,hv⟩
  ·exact⟨_,_,_,hv⟩
 go_wp2
 go_ret2
 refine⟨rfl,?_,?_⟩
 ·exact Lib.BuilderAt.put (T:=229) (e:=5) hB hb2 (bs':=bs++Lib.strCells s) (by simpa[Lib.strCells_length]using hown') (by decide)
 ·exact(hb1.grown hgrow (by have:=hb1.size;omega) (fun k hk=>(hown.lt k hk).1)).setCell (p:=⟨b,1,none⟩) hB _
theorem zwt {w w':World} {B b:Nat} {bs:List Value} (h:Lib.IsBuilder 229 5 B b bs w) (hb:Below w.heap.size w w'):Lib.IsBuilder 229 5 B b bs w':=by
 have key:∀p,Lib.BuilderAt 229 5 B b p bs w→Lib.BuilderAt 229 5 B b p bs w':=by
  rintro p ⟨h1,v,h2,ho,h3⟩
  refine⟨h1,v,(hb.block b (Array.getElem?_eq_some_iff.1 h2).1).trans h2,?_,h3⟩
  refine⟨ho.1,?_⟩
  rcases ho.2 with ⟨g1,g2⟩|⟨g,cap,cur,g1,g2,g3,g4⟩
  ·exact .inl ⟨g1,g2⟩
  ·exact .inr ⟨g,cap,cur,g1,g2,(hb.block g (Array.getElem?_eq_some_iff.1 g3).1).trans g3,g4⟩
 exact h.imp (key _) (key _)
def paN (n:Int):List UInt8:=zgs (zf6 n)
def paK (xs:List Int) (k:Nat):List UInt8:=zgs xs.length++(xs.take k).flatMap paN
def paR (xs:List Int):ByteArray × Int:=if 1000<xs.length then (⟨#[]⟩,2)else (⟨(paK xs xs.length).toArray⟩,0)
theorem zqj (n:Nat):(zgs n).length≤10:=(zh2 9 n).2
theorem zld (xs:List Int) (k:Nat):(paK xs k).length≤10+10*k:=by
 unfold paK
 rw[List.length_append]
 have h1:=zqj xs.length
 have h2:∀l:List Int,(l.flatMap paN).length≤10*l.length:=by
  intro l
  induction l with
  | nil=>simp
  | cons x l ih =>
   have:=zqj (zf6 x)
   have e:paN x=zgs (zf6 x):=rfl
   rw[List.flatMap_cons,List.length_append,List.length_cons,e];omega
 have h3:=h2 (xs.take k)
 have h4:(xs.take k).length≤k:=List.length_take_le _ _
 omega
theorem z49 (xs:List Int) (k:Nat) (h:k<xs.length):paK xs (k+1)=paK xs k++zgs (zf6 xs[k]):=by
 unfold paK
 rw[zw9 xs k h,List.flatMap_append,List.append_assoc];simp[paN]
set_option maxHeartbeats 2000000 in
set_option maxRecDepth 20000 in
theorem zxw (a:Option Addr) (c B:Nat) (xs:List Int) (w:World) (hE:Els w B a 1 z6q xs) (hx:∀x∈xs,I64 x) (hl:xs.length≤140737488351232) (hB:B≤w.heap.size) :
 Calls Tryz.prog 62 #[.slice a xs.length c] w fun e w'=>e = .returned (.tuple #[.string (paR xs).1,.int .i64 (paR xs).2])∧Below w.heap.size w w':=by
 have HE:=PLift.up hE
 have HX:=PLift.up hx
 clear hE hx
 by_cases hn:1000<xs.length
 ·rw[show paR xs=(⟨#[]⟩,2)from if_pos hn]
  go_enter Tryz.func62,Tryz.ntmps62
  go_wp2_with fail
  go_returns
  exact⟨rfl,Below.refl _ _⟩
 ·rw[show paR xs=(⟨(paK xs xs.length).toArray⟩,0)from if_neg hn]
  go_enter Tryz.func62,Tryz.ntmps62
  go_wp2_with fail
  refine(zn5 xs.length (by omega) _).mono ?_
  rintro e w1 ⟨rfl,hb1⟩
  have BL:PLift (Lib.IsBuilder 229 5 w.heap.size w.heap.size [] w1):=PLift.up (zwt (Lib.fresh_isBuilder 229 5 w) hb1)
  have HB1:PLift (Below w.heap.size w w1):=PLift.up ((z3i w _).trans (hb1.mono (by simp)))
  have hs1:=HB1.down.size
  clear hb1
  have hp0:ziw xs.length=⟨(paK xs 0).toArray⟩:=by simp[paK,ziw]
  rw[hp0]
  clear hp0
  go_wp2_with fail
  refine(zrs w.heap.size w.heap.size [] _ w1 BL.down (by rw[zo9];have:=zld xs 0;simp;omega) hs1).mono ?_
  rintro e w2 ⟨rfl,hw2,hb2⟩
  have BL2:PLift (Lib.IsBuilder 229 5 w.heap.size w.heap.size (Lib.byteCells (paK xs 0)) w2):=PLift.up (.inr hw2)
  have HB2:=PLift.up (HB1.down.trans hb2)
  clear hw2 hb2 BL HB1 hs1
  go_wp2_with fail
  go_loopw [17] (fun iv wr=>∃(k:Nat),k≤xs.length∧iv = .int .i64 k∧Hid (Lib.IsBuilder 229 5 w.heap.size w.heap.size (Lib.byteCells (paK xs k)) wr∧Below w.heap.size w wr)) (fun iv _=>xs.length-(intOf iv).toNat)
  case atStart=>exact⟨0,by omega,rfl,BL2.down,HB2.down⟩
  case round =>
   obtain⟨k,hk,rfl,hI⟩:=hrel
   have hBw:=hI.out.2.size
   by_cases hlt:k<xs.length
   ·obtain⟨b,o,rfl,hb,hc⟩:=(HE.down.below hI.out.2 hB).i64 k hlt
    have hxk:=HX.down xs[k] (List.getElem_mem hlt)
    have hs:=z49 xs k hlt
    have hkl:=zld xs k
    generalize xs[k]=x at *
    have hf:=zwb x hxk
    have hps:=zxz (zf6 x)
    have F:=PLift.up (z6j x hxk)
    have Q:=PLift.up (fun w=>zn5 (zf6 x) hf w)
    have HS:PLift (Lib.byteCells (paK xs k)++Lib.strCells (ziw (zf6 x))=Lib.byteCells (paK xs (k+1))):=PLift.up (by rw[hs];simp[Lib.byteCells,Lib.strCells,ziw])
    generalize zf6 x=y at *
    generalize ziw y=Y at *
    have HI:=PLift.up hI.out
    clear hI hs hxk
    go_wp2_with fail
    refine(F.down _).mono ?_
    rintro e w2 ⟨rfl,rfl⟩
    go_wp2_with fail
    refine(Q.down _).mono ?_
    rintro e w2 ⟨rfl,hb2⟩
    have BL3:=PLift.up (zwt HI.down.1 hb2)
    have HB3:=PLift.up (HI.down.2.trans (hb2.mono hBw))
    have hBw3:=HB3.down.size
    clear hb2
    go_wp2_with fail
    refine(zrs w.heap.size w.heap.size _ _ w2 BL3.down (by simp[Lib.byteCells];omega) hBw3).mono ?_
    rintro e w3 ⟨rfl,hw3,hb3⟩
    have HB4:=PLift.up (HB3.down.trans hb3)
    have HW3:=PLift.up hw3
    clear hw3 hb3
    go_wp2_with fail
    go_roundw
    case rel=>exact⟨k+1,by omega,by go_num,by rw[←HS.down];exact .inr HW3.down,HB4.down⟩
    case measure=>simp[intOf];omega
   ·obtain rfl:k=xs.length:=by omega
    have HI:=PLift.up hI.out
    clear hI
    go_wp2_with fail
    refine(Tryz.Builder_String_any w.heap.size w.heap.size (paK xs xs.length) wr HI.down.1 hBw).mono ?_
    rintro e w2 ⟨rfl,hb2⟩
    have HB2:=PLift.up (HI.down.2.trans hb2)
    clear hb2
    go_wp2_with fail
    go_returns
    exact⟨rfl,HB2.down⟩
def mk (m:Nat) (xs:List Nat):Nat:=xs.foldl (fun m n=>m ^^^ mx n) m
theorem yil (xs:List Nat):∀m,m<18446744073709551616→mk m xs<18446744073709551616:=by
 induction xs with
 | nil=>intro m h;exact h
 | cons x xs ih=>intro m h;exact ih _ (z8r _ _ h (z5o x))
theorem yav (m:Nat) (xs:List Nat) (x:Nat):mk m (xs ++ [x])=mk m xs ^^^ mx x:=by simp[mk]
structure U64s where
 a:Option Addr
 c:Nat
 xs:List Nat
def U64s.val (u:U64s):Value := .slice u.a u.xs.length u.c
def U64s.enc (u:U64s):List Value := [u.val]
def cnt (l:List Nat) (i k:Nat):Nat:=(l.take k).count (l.getD i 0)
def pcK (n:Nat):Nat→Nat
 | 0=>0
 | k+1=>pcK n k+n/2 ^ k % 2
theorem z0n (n:Nat):∀k,pcK n k≤k
 | 0=>Nat.le_refl _
 | k+1=>by have:=z0n n k;have:n/2 ^ k % 2<2:=Nat.mod_lt _ (by decide);simp only[pcK];omega
theorem z96:∀m:Fin 256,Lib.pop8 (m.val:Int)=(pcK m.val 8:Int):=by decide +kernel
theorem zj5 (x:Nat):Lib.pop8 ((x:Int) % 256)=(pcK x 8:Int):=by
 have h:=z96 ⟨x % 256,Nat.mod_lt _ (by decide)⟩
 simp only at h
 rw[show ((x:Int) % 256)=((x % 256:Nat):Int)from by omega,h]
 congr 1
 simp only[pcK]
 omega
theorem zn6 (n a:Nat):∀b,pcK n (a+b)=pcK n a+pcK (n/2 ^ a) b
 | 0=>rfl
 | b+1=>by
  show pcK n (a+b)+n/2 ^ (a+b) % 2=pcK n a+(pcK (n/2 ^ a) b+n/2 ^ a/2 ^ b % 2)
  rw[zn6 n a b,Nat.pow_add,Nat.div_div_eq_div_mul,Nat.add_assoc]
theorem yku (n:Nat):pcK n 32=pcK (n/16777216) 8+pcK (n/65536) 8+pcK (n/256) 8+pcK n 8:=by
 have e1:=zn6 n 8 24
 have e2:=zn6 (n/2 ^ 8) 8 16
 have e3:=zn6 (n/2 ^ 8/2 ^ 8) 8 8
 simp only[Nat.div_div_eq_div_mul,←Nat.pow_add,Nat.reduceAdd,Nat.reducePow,Nat.reduceMul]at e1 e2 e3
 omega
theorem ykt (n:Nat) (hn:n<4294967296):(Lib.pop8 ((n:Int)/16777216)+Lib.pop8 ((n:Int)/65536 % 256)+Lib.pop8 ((n:Int)/256 % 256)+Lib.pop8 ((n:Int) % 256)) % 256=(pcK n 32:Int):=by
 have e0:((n:Int)/16777216)=((n/16777216:Nat):Int) % 256:=by omega
 have e1:((n:Int)/65536)=((n/65536:Nat):Int):=by omega
 have e2:((n:Int)/256)=((n/256:Nat):Int):=by omega
 rw[e0,e1,e2,zj5,zj5,zj5,zj5]
 have:=yku n
 have:=z0n n 32
 omega
set_option maxRecDepth 100000 in
set_option maxHeartbeats 800000 in
theorem yb5 (n:Nat) (w:World) (hn:n<4294967296) :
 Calls Tryz.prog 61 #[.int .u32 n] w fun e w'=>e = .returned (.int .i64 (pcK n 32:Nat))∧w.drew=w':=by
 have p0:(0:Int)≤(n:Int)/16777216:=by omega
 have p1:(n:Int)/16777216≤255:=by omega
 have q0:bits .and .u32 ((n:Int)/65536) 255=(n:Int)/65536 % 256:=by
  rw[u32_and _ _ (by omega) (by omega) (by omega) (by omega),show ((255:Int).toNat)=2^8-1 from rfl,Nat.and_two_pow_sub_one_eq_mod]
  omega
 have q1:bits .and .u32 ((n:Int)/256) 255=(n:Int)/256 % 256:=by
  rw[u32_and _ _ (by omega) (by omega) (by omega) (by omega),show ((255:Int).toNat)=2^8-1 from rfl,Nat.and_two_pow_sub_one_eq_mod]
  omega
 have q2:bits .and .u32 (n:Int) 255=(n:Int) % 256:=by
  rw[u32_and _ _ (by omega) (by omega) (by omega) (by omega),show ((255:Int).toNat)=2^8-1 from rfl,Nat.and_two_pow_sub_one_eq_mod]
  omega
 go_enter Tryz.func61,Tryz.ntmps61
 go_wp2
 go_region
 go_wp2
 go_ret
 all_goals(first|exact⟨z0k (ykt n hn),rfl⟩|rfl)
def zhn (n:Nat) (k:Int):Bool:=decide (0≤k∧k<32)&&(n/2 ^ k.toNat % 2 == 1)
def zcv (n k:Nat):Bool:=n/2 ^ k % 2 == 1
theorem zgn (n k:Nat):zcv n k=n.testBit k:=by
 rw[Nat.testBit_eq_decide_div_mod_eq];exact Bool.eq_iff_iff.2 (by simp[zcv])
theorem zta (n k:Nat) (h:k<32):zhn n (k:Int)=zcv n k:=by
 unfold zhn zcv
 rw[Int.toNat_natCast,decide_eq_true (by omega),Bool.true_and]
theorem zs9 (n:Nat) (k:Int) (hn:n<65536) (h:¬(0≤k∧k<16)):zhn n k=false:=by
 unfold zhn
 by_cases h1:0≤k∧k<32
 ·have:2 ^ 16≤2 ^ k.toNat:=Nat.pow_le_pow_right (by decide) (by omega)
  rw[Nat.div_eq_of_lt (by omega)]
  simp
 ·rw[decide_eq_false h1];rfl
def clr (n k:Nat):Nat:=if zcv n k then n-2 ^ k else n
theorem zxx (k:Nat) (hk:k<32):0<2 ^ k∧2 ^ k≤2147483648:=⟨Nat.pow_pos (by decide),Nat.pow_le_pow_right (show 0<2 by decide) (show k≤31 by omega)⟩
theorem z3m (n k:Nat) (hn:n<4294967296) (hk:k<32):n &&& (4294967295-2 ^ k)=clr n k:=by
 obtain⟨hp0,hp⟩:=zxx k hk
 have hz:(BitVec.ofNat 32 n &&& ~~~BitVec.ofNat 32 (2 ^ k)) &&& (BitVec.ofNat 32 n &&& BitVec.ofNat 32 (2 ^ k))=0#32:=by
  ext i hi
  simp only[BitVec.getElem_and,BitVec.getElem_not,BitVec.getElem_zero]
  cases (BitVec.ofNat 32 n)[i]<;>cases (BitVec.ofNat 32 (2 ^ k))[i]<;>rfl
 have h3:(BitVec.ofNat 32 n &&& ~~~BitVec.ofNat 32 (2 ^ k)) ||| (BitVec.ofNat 32 n &&& BitVec.ofNat 32 (2 ^ k))=BitVec.ofNat 32 n:=by
  ext i hi
  simp only[BitVec.getElem_and,BitVec.getElem_not,BitVec.getElem_or]
  cases (BitVec.ofNat 32 n)[i]<;>cases (BitVec.ofNat 32 (2 ^ k))[i]<;>rfl
 have h1:=BitVec.toNat_add_of_and_eq_zero hz
 rw[BitVec.add_eq_or_of_and_eq_zero _ _ hz,h3]at h1
 simp only[BitVec.toNat_and,BitVec.toNat_not,BitVec.toNat_ofNat]at h1
 rw[Nat.mod_eq_of_lt (show n<2 ^ 32 by omega),Nat.mod_eq_of_lt (show 2 ^ k<2 ^ 32 by omega),nat_bit,show 2 ^ 32-1-2 ^ k=4294967295-2 ^ k from by omega]at h1
 unfold clr zcv
 rcases Nat.mod_two_eq_zero_or_one (n/2 ^ k)with h|h
 ·rw[h]at h1 ⊢;rw[if_neg (by decide)];omega
 ·rw[h]at h1 ⊢;rw[if_pos (by decide)];omega
theorem z0v (n k:Nat) (hn:n<4294967296) (hk:k<32) (hb:zcv n k=false):n ||| 2 ^ k=n+2 ^ k∧n+2 ^ k<4294967296:=by
 obtain⟨hp0,hp⟩:=zxx k hk
 have h0:n/2 ^ k % 2=0:=by
  rcases Nat.mod_two_eq_zero_or_one (n/2 ^ k)with h|h
  ·exact h
  ·simp[zcv,h]at hb
 have hz:BitVec.ofNat 32 n &&& BitVec.ofNat 32 (2 ^ k)=0#32:=by
  apply BitVec.eq_of_toNat_eq
  simp only[BitVec.toNat_and,BitVec.toNat_ofNat]
  rw[Nat.mod_eq_of_lt (show n<2 ^ 32 by omega),Nat.mod_eq_of_lt (show 2 ^ k<2 ^ 32 by omega),nat_bit,h0];simp
 have h1:=BitVec.toNat_add_of_and_eq_zero hz
 rw[BitVec.add_eq_or_of_and_eq_zero _ _ hz]at h1
 simp only[BitVec.toNat_or,BitVec.toNat_ofNat]at h1
 rw[Nat.mod_eq_of_lt (show n<2 ^ 32 by omega),Nat.mod_eq_of_lt (show 2 ^ k<2 ^ 32 by omega)]at h1
 have:n ||| 2 ^ k<2 ^ 32:=Nat.or_lt_two_pow (by omega) (by omega)
 omega
theorem znk (n k:Nat):clr n k≤n:=by
 unfold clr
 split
 ·exact Nat.sub_le _ _
 ·exact Nat.le_refl _
theorem zo2 (k:Nat):clr 0 k=0:=Nat.le_zero.1 (znk 0 k)
theorem z97:pcK 0 32=0:=by decide
def z7u (m s:Nat):Bool:=decide (pcK m 32<2*pcK s 32)
def znu (m:Nat) (g:List Nat):Option Nat:=g.findIdx? (z7u m)
def lv (g:List Nat) (k:Nat):List Nat:=(g.set k 0).map (clr · k)
theorem zvn (g:List Nat) (k:Nat):(lv g k).length=g.length:=by simp[lv]
def zma:Nat→Nat→List Nat→Nat × List Nat
 | 0,m,g=>(m,g)
 | n+1,m,g=>match znu m g with
  | none=>(m,g)
  | some k=>zma n (clr m k) (lv g k)
def nz (g:List Nat):Nat:=g.countP (fun s=>decide (s≠0))
theorem z5h (g:List Nat) (k:Nat) (h:k<g.length) (h0:g[k]≠0):nz (lv g k)<nz g:=by
 have h1:nz (lv g k)≤nz (g.set k 0):=by
  unfold nz lv
  rw[List.countP_map]
  apply List.countP_mono_left
  intro x _ hx
  simp only[Function.comp,decide_eq_true_eq]at hx ⊢
  intro he;rw[he,zo2]at hx;exact hx rfl
 have h2:nz (g.set k 0)+1=nz g:=by
  unfold nz
  rw[List.countP_set h]
  have hp:0<g.countP (fun s=>decide (s≠0)):=List.countP_pos_iff.2 ⟨g[k],List.getElem_mem h,by simpa using h0⟩
  simp only[decide_eq_true_eq]
  rw[if_pos h0,if_neg (by simp)]
  omega
 omega
theorem z4t (n m:Nat) (g:List Nat) (h:znu m g=none):zma n m g=(m,g):=by
 cases n with
 | zero=>rfl
 | succ n=>rw[zma,h]
theorem zhr (m:Nat) (g:List Nat) (k:Nat) (h:znu m g=some k):∃hk:k<g.length,z7u m g[k]=true∧g[k]≠0:=by
 unfold znu at h
 rw[List.findIdx?_eq_some_iff_getElem]at h
 obtain⟨hk,h1,_⟩:=h
 refine⟨hk,h1,?_⟩
 intro h0
 rw[h0]at h1
 simp[z7u,z97]at h1
theorem z4s (n m:Nat) (g:List Nat) (k:Nat) (h:znu m g=some k) (hn:nz g≤n):∃n',nz (lv g k)≤n'∧zma n m g=zma n' (clr m k) (lv g k):=by
 obtain⟨hk,_,h0⟩:=zhr m g k h
 have:=z5h g k hk h0
 cases n with
 | zero=>omega
 | succ n=>exact⟨n,by omega,by rw[zma,h]⟩
theorem yei (g:List Nat):nz g≤g.length:=List.countP_le_length
def z7d (m k s:Nat):Bool:=decide (s &&& (4294967295-m)≠0)||zcv s k||(decide (s≠0) && !zcv m k)
def ycz (m k s j:Nat):Bool:=zcv s j&&(!zcv m k || !zcv m j||decide (j=k))
def za7 (m:Nat) (g:List Nat):Int:=if m=0∨65535<m then 1 else if g.length≠16 then 4 else if (List.range 16).any (fun k=>z7d m k (g.getD k 0))then 4 else if (znu m g).isSome then 4 else 0
theorem z3j (m k s:Nat) (hm:m<4294967296) (hs:s<4294967296) (hk:k<32):z7d m k s=true↔∃j,j<32∧ycz m k s j=true:=by
 have hc:∀j,(s &&& (4294967295-m)).testBit j=(s.testBit j && !m.testBit j):=by
  intro j
  rw[Nat.testBit_and,show 4294967295-m=2 ^ 32-(m+1)from by omega,Nat.testBit_two_pow_sub_succ (by omega)]
  by_cases hj:j<32
  ·simp[hj]
  ·have:s.testBit j=false:=Nat.testBit_lt_two_pow (Nat.lt_of_lt_of_le hs (show 2 ^ 32≤2 ^ j from Nat.pow_le_pow_right (by decide) (by omega)))
   simp[this]
 have h32:∀j,s.testBit j=true→j<32:=by
  intro j hj
  rcases Nat.lt_or_ge j 32 with h|h
  ·exact h
  ·rw[Nat.testBit_lt_two_pow (Nat.lt_of_lt_of_le hs (show 2 ^ 32≤2 ^ j from Nat.pow_le_pow_right (by decide) h))]at hj
   exact absurd hj (by decide)
 unfold z7d ycz
 simp only[zgn,Bool.or_eq_true,decide_eq_true_eq,Bool.and_eq_true,Bool.not_eq_true']
 constructor
 ·rintro ((h|h)|⟨h1,h2⟩)
  ·obtain⟨j,hj⟩:=Nat.exists_testBit_of_ne_zero h
   rw[hc,Bool.and_eq_true,Bool.not_eq_true']at hj
   exact⟨j,h32 j hj.1,hj.1,.inl (.inr hj.2)⟩
  ·exact⟨k,hk,h,.inr rfl⟩
  ·obtain⟨j,hj⟩:=Nat.exists_testBit_of_ne_zero h1
   exact⟨j,h32 j hj,hj,.inl (.inl h2)⟩
 ·rintro⟨j,_,h1,(h|h)|rfl⟩
  ·right
   refine⟨?_,h⟩
   rintro rfl
   simp at h1
  ·left;left
   intro h0
   have:=hc j
   rw[h0,h1,h]at this
   simp at this
  ·exact .inl (.inr h1)
def zch (m:Nat) (g:List Nat) (b a:Int):(Nat × List Nat) × Bool × Int :=
 if za7 m g≠0 then ((0,[]),false,za7 m g)
 else if (zhn m b&&zhn m a)=false then ((0,[]),false,7)
 else if b=a then ((0,[]),false,1)
 else if zcv (g.getD a.toNat 0) b.toNat then ((0,[]),false,8)
 else (zma 16 m (g.set a.toNat (g.getD a.toNat 0+2 ^ b.toNat)),!zcv (zma 16 m (g.set a.toNat (g.getD a.toNat 0+2 ^ b.toNat))).1 a.toNat,0)
theorem zir (m:Nat) (g:List Nat) (h:za7 m g=0):(0<m∧m≤65535)∧g.length=16∧(∀k,k<16→z7d m k (g.getD k 0)=false)∧znu m g=none:=by
 unfold za7 at h
 split at h
 ·simp at h
 split at h
 ·simp at h
 split at h
 ·simp at h
 split at h
 ·simp at h
 rename_i h1 h2 h3 h4
 refine⟨by omega,by simpa using h2,?_,by simpa using h4⟩
 intro k hk
 simp only[Bool.not_eq_true,List.any_eq_false]at h3
 simpa using h3 k (by simp[hk])
theorem Conc.ghost {H:Hist} {s:St} {F F':Nat→Prop} {β β':Nat→Option Bind} {a:Act} {w:World} (C:Conc H s F β a w) {h':List (Nat × Chunk)} {n':Nat} (hn:s.n≤n') (M:MemOk H.W H.N (· < n') F' β' (zae h') w) (E:Ext (· < s.n) F β w (· < n') F' β' w)
 (hg:∀b,F' b→F b∨∃i bd,β i=some bd∧bd.has b):Conc H ⟨s.t,h',n'⟩ F' β' a w:=by
 refine⟨fun t=>RelA.mono E _ _ (C.t t),M,C.nt,C.d.mono E.f,fun b hb=>(E.f b (C.f b hb)).1,fun b hb => ?_,fun i bd hi hb => ?_,Nat.le_trans C.k hn⟩
 ·rcases hg b hb with h|⟨i,bd,h1,h2⟩
  ·exact C.g b h
  ·exact .inr (C.m.off i bd b h1 h2).2.2
 ·obtain⟨bs,h1⟩:=E.e i bd (Nat.lt_of_lt_of_le hi C.k) hb
  exact C.e i ⟨_,_,_,_,bs⟩ hi h1
theorem MemOk.here' {W:World} {N U F:Nat→Prop} {β : Nat→Option Bind} {h:Nat→Chunk} {w:World} (M:MemOk W N U F β h w) {id:Nat} {c:Chunk} (hc:h id=c) (hd:c ≠ .dead):∃bd,β id=some bd∧ChOk U w F β bd c:=M.get (fun _ _=>rfl) hc hd
theorem To.nst {k:Nat} {s:St} (id e sz c e2 sz2:Nat) (xs:List (List PV)) (hc:zae s.h id = .row e sz xs) (hcs:c<sz) (hx:∀x∈xs,x[c]? = some (.v (.slice none 0 0))) :
 ToK k s ⟨s.t,(id,.nst e sz c e2 sz2 xs (List.replicate xs.length []) none)::s.h,s.n⟩:=by
 intro H F β a w hk C
 obtain⟨bd,hb,q1,q2,q3,q4⟩:=C.m.here' hc (by simp)
 have hU:=C.m.used _ _ hb
 obtain⟨S1,S2⟩:=C.m.step (w':=w) (h':=zae ((id,.nst e sz c e2 sz2 xs (List.replicate xs.length []) none)::s.h)) (β' := β) (F':=F) (U':=(· < s.n)) (fun i=>i=id)
  (fun i hi=>rfl) (fun i hi=>by simp only[zae,if_neg (Ne.symm hi)]) rfl rfl rfl (Nat.le_refl _) (fun _ _ _=>rfl) (fun _ h=>h) (fun _ h=>h) (fun b hb=>⟨C.m.fin b hb,.inl hb⟩)
  (fun i bd' _ _ hb'=>⟨_,hb'⟩)
  (fun i bd' hi hb'=>by
   subst hi
   refine⟨hU,fun b hbb => ?_⟩
   have:=C.m.off _ _ b hb' hbb
   exact⟨this.2.1,this.1,.inr ⟨i,bd',rfl,hb',hbb⟩⟩)
  (fun i j _ _ _ hi hj _ _ _ _=>by rw[hi,hj])
  (fun E i hi _=>by
   subst hi
   refine⟨bd,hb,?_⟩
   simp only[zae,if_true]
   refine⟨⟨q1.1,by rw[q1.2];simp⟩,q2,by simp,hcs,q3,?_⟩
   rcases q4 with ⟨h1,h2,h3⟩|⟨g,cap,cur,h5,h6,h7,h8,h9,h10,hE⟩
   ·exact .inl ⟨h1,h2,h3,rfl⟩
   ·refine .inr ⟨g,cap,cur,h5,h6,h7,h8,h9,h10,by rw[q1.2];simp,?_⟩
    have cel:∀i x,xs[i]? = some x→w.cell? ⟨g,i*sz+c,none⟩=some (.slice none 0 0):=by
     intro i x hxi
     obtain⟨_,hC⟩:=hE.at i x hxi
     obtain⟨u,hu,hr⟩:=hC.at c _ (hx x (List.mem_of_getElem? hxi))
     simp only[RelP]at hr
     rw[Nat.zero_add]at hu
     rw[hu,hr.1]
    refine⟨fun i x y hxi hyi j p hp => ?_,fun i i' b o o' n n' k1 k2 l1 l2 _ _ c1 _ => ?_,fun i id' ho=>by simp at ho⟩
    ·obtain⟨_,hC⟩:=hE.at i x hxi
     obtain⟨u,hu,hr⟩:=hC.at j p hp
     refine⟨u,by simpa using hu,?_⟩
     unfold NCell
     simp only[zhb]
     split
     ·rename_i hj
      subst hj
      have:=cel i x hxi
      rw[Nat.zero_add,this]at hu
      cases hu
      exact .inl ⟨rfl,(List.eq_of_mem_replicate (List.mem_of_getElem? hyi))⟩
     ·exact hr
    ·rw[cel i xs[i] (by simp[l1])]at c1
     simp at c1)
 exact⟨F,β,C.ghost (Nat.le_refl _) S1 S2 fun b hb => .inl hb⟩
theorem To.open {k:Nat} {s:St} (id i e sz c e2 sz2:Nat) (xs:List (List PV)) (ys:List (List (List PV))) (hc:zae s.h id = .nst e sz c e2 sz2 xs ys none) (hi:i<xs.length) :
 ToK k s ⟨s.t,(id,.nst e sz c e2 sz2 xs ys (some (i,s.n)))::(s.n,.row e2 sz2 (ys.getD i []))::s.h,s.n+1⟩:=by
 intro H F β a w hk C
 obtain⟨bd,hb,q1,q2,q3,q4,q5,q6⟩:=C.m.here' hc (by simp)
 have hU:=C.m.used _ _ hb
 have hne:id≠s.n:=Nat.ne_of_lt hU
 have hb0:∀bd,β s.n≠some bd:=fun bd hb=>absurd (C.m.used _ bd hb) (Nat.lt_irrefl _)
 rcases q6 with ⟨_,rfl,_⟩|⟨g,cap,cur,h5,h6,h7,h8,h9,h10,h11,h12⟩
 ·simp at hi
 have hyi:i<ys.length:=by rw[q3];exact hi
 have hxi:xs[i]? = some xs[i]:=by simp[hi]
 have hyd:ys[i]? = some (ys.getD i []):=by simp[hyi]
 have hxl:xs[i].length=sz:=q5 _ (List.getElem_mem hi)
 obtain⟨u,hu,hn⟩:=h12.cells i _ _ hxi hyd c (xs[i][c]'(by rw[hxl];exact q4)) (by simp)
 have hn:InnOk w F bd.bs e2 sz2 (ys.getD i []) u:=by
  unfold NCell at hn
  simpa only[zhb,if_true]using hn
 -- the new piece
 obtain⟨bn,rest,e1,e2',e3,e4,e5,e6⟩:∃(bn:Bind) (rest:List Nat),bn.v=u∧ChOk (· < s.n+1) w F (zay (zay β id (some ⟨bd.v,bd.b,bd.n,bd.sz,rest⟩)) s.n (some bn)) bn (.row e2 sz2 (ys.getD i []))∧(∀b,bn.has b→b∈bd.bs∧b∉rest)∧(∀b,b∈rest→b∈bd.bs) ∧
  (∀b,b∈bd.bs→(∀o n q,u ≠ .slice (some ⟨b,o,none⟩) n q)→b∈rest)∧bn.bs = []:=by
  rcases hn with ⟨rfl,hy⟩|⟨g2,cap2,cur2,rfl,k2,k3,k4,k5,k6,k7⟩
  ·refine⟨⟨.slice none 0 0,none,0,sz2,[]⟩,bd.bs,rfl,?_,fun b hbb=>by have:=Bind.has_nil hbb;simp at this,fun b h=>h,fun b h _=>h,rfl⟩
   rw[hy]
   exact⟨⟨rfl,rfl⟩,rfl,by simp,.inl ⟨rfl,rfl,rfl⟩⟩
  ·refine⟨⟨.slice (some ⟨g2,0,none⟩) (ys.getD i []).length cap2,some g2,(ys.getD i []).length,sz2,[]⟩,bd.bs.filter (fun b => !(b == g2)),rfl,?_,fun b hbb => ?_,fun b h=>(List.mem_filter.1 h).1,fun b h hno => ?_,rfl⟩
   ·refine⟨⟨rfl,rfl⟩,rfl,fun cs hcs => ?_,.inr ⟨g2,cap2,cur2,rfl,rfl,k3,k4,k5,k6,k7⟩⟩
    obtain⟨q,hq⟩:=List.getElem?_of_mem hcs
    exact(k7.at q cs hq).1
   ·have:=Bind.has_nil hbb
    cases this
    exact⟨k2,by simp⟩
   ·refine List.mem_filter.2 ⟨h,?_⟩
    simp only[Bool.not_eq_true',beq_eq_false_iff_ne,ne_eq]
    rintro rfl
    exact hno _ _ _ rfl
 obtain⟨S1,S2⟩:=C.m.step (w':=w) (h':=zae ((id,.nst e sz c e2 sz2 xs ys (some (i,s.n)))::(s.n,.row e2 sz2 (ys.getD i []))::s.h)) (β':=zay (zay β id (some ⟨bd.v,bd.b,bd.n,bd.sz,rest⟩)) s.n (some bn)) (F':=F) (U':=(· < s.n+1)) (fun i=>i=id∨i=s.n)
  (fun j hj=>by simp only[not_or]at hj;simp only[zay,if_neg (Ne.symm hj.1),if_neg (Ne.symm hj.2)])
  (fun j hj=>by simp only[not_or]at hj;simp only[zae,if_neg (Ne.symm hj.1),if_neg (Ne.symm hj.2)])
  rfl rfl rfl (Nat.le_refl _) (fun _ _ _=>rfl) (fun _ h=>Nat.lt_succ_of_lt h) (fun _ h=>h) (fun b hb=>⟨C.m.fin b hb,.inl hb⟩)
  (fun j bd' hj hu hb'=>by
   rcases hj with rfl|rfl
   ·simp only[zay,if_neg (Ne.symm hne),if_true,Option.some.injEq]at hb'
    subst hb'
    exact⟨bd.bs,hb⟩
   ·exact absurd hu (Nat.lt_irrefl _))
  (fun j bd' hj hb'=>by
   rcases hj with rfl|rfl
   ·simp only[zay,if_neg (Ne.symm hne),if_true,Option.some.injEq]at hb'
    subst hb'
    refine⟨Nat.lt_succ_of_lt hU,fun b hbb => ?_⟩
    have hbb':bd.has b:=hbb.imp id (e4 b)
    have:=C.m.off _ _ b hb hbb'
    exact⟨this.2.1,this.1,.inr ⟨j,bd,.inl rfl,hb,hbb'⟩⟩
   ·simp only[zay,if_true,Option.some.injEq]at hb'
    subst hb'
    refine⟨Nat.lt_succ_self _,fun b hbb => ?_⟩
    have hbb':bd.has b := .inr (e3 b hbb).1
    have:=C.m.off _ _ b hb hbb'
    exact⟨this.2.1,this.1,.inr ⟨id,bd,.inl rfl,hb,hbb'⟩⟩)
  (fun j j' bj bj' b hj hj' hbj hbj' h1 h2=>by
   have key:∀b,(⟨bd.v,bd.b,bd.n,bd.sz,rest⟩:Bind).has b→bn.has b→False:=by
    intro b h1 h2
    obtain⟨m1,m2⟩:=e3 b h2
    rcases h1 with h1|h1
    ·rw[h5]at h1;cases h1;exact h11 m1
    ·exact m2 h1
   rcases hj with rfl|rfl<;>rcases hj' with rfl|rfl
   ·rfl
   ·simp only[zay,if_neg (Ne.symm hne),if_true,Option.some.injEq]at hbj hbj'
    subst hbj hbj'
    exact(key b h1 h2).elim
   ·simp only[zay,if_neg (Ne.symm hne),if_true,Option.some.injEq]at hbj hbj'
    subst hbj hbj'
    exact(key b h2 h1).elim
   ·rfl)
  (fun E j hj _=>by
   rcases hj with rfl|rfl
   ·refine⟨⟨bd.v,bd.b,bd.n,bd.sz,rest⟩,by simp[zay,Ne.symm hne],?_⟩
    simp only[zae,if_true]
    refine⟨⟨q1.1,fun b hbb=>q1.2 b (e4 b hbb)⟩,q2,q3,q4,q5,.inr ⟨g,cap,cur,h5,h6,h7,h8,h9,h10,fun h=>h11 (e4 g h),?_⟩⟩
    refine⟨fun i' x y hx hy j' p hp => ?_,fun i1 i2 b o1 o2 n1 n2 k1 k2 l1 l2 m1 m2 c1 c2=>h12.inj i1 i2 b o1 o2 n1 n2 k1 k2 l1 l2 rfl rfl c1 c2,fun i' id' ho => ?_⟩
    ·obtain⟨u',hu',hn'⟩:=h12.cells i' x y hx hy j' p hp
     refine⟨u',hu',?_⟩
     unfold NCell at hn' ⊢
     split
     ·rename_i hj'
      subst hj'
      simp only[if_true,zhb]at hn' ⊢
      by_cases hii:i=i'
      ·subst hii
       rw[hu']at hu
       cases hu
       rw[if_pos rfl]
       refine⟨Nat.lt_succ_self _,hn'.one,fun bd' hbd' => ?_⟩
       simp only[zay,if_true,Option.some.injEq]at hbd'
       subst hbd'
       exact e1.symm
      ·rw[if_neg hii]
       rcases hn' with h|⟨g3,cap3,cur3,rfl,k2,k3⟩
       ·exact .inl h
       ·refine .inr ⟨g3,cap3,cur3,rfl,e5 g3 k2 fun o n q hq=>hii ?_,k3⟩
        subst hq
        exact h12.inj i i' g3 _ _ _ _ _ _ hi (List.getElem?_eq_some_iff.1 hx).1 rfl rfl hu hu'
     ·rename_i hj'
      rw[if_neg hj']at hn'
      exact hn'
    ·simp only[Option.some.injEq,Prod.mk.injEq]at ho
     obtain⟨rfl,rfl⟩:=ho
     exact⟨Nat.lt_succ_self _,hi⟩
   ·refine⟨bn,by simp[zay],?_⟩
    simp only[zae,if_neg hne,if_true]
    exact e2')
 exact⟨F,_,C.ghost (Nat.le_succ _) S1 S2 fun b hb => .inl hb⟩
theorem To.close {k:Nat} {s:St} (id i j e sz c e2 sz2:Nat) (xs:List (List PV)) (ys:List (List (List PV))) (zs:List (List PV)) (hc:zae s.h id = .nst e sz c e2 sz2 xs ys (some (i,j))) (hj:zae s.h j = .row e2 sz2 zs) :
 ToK k s ⟨s.t,(id,.nst e sz c e2 sz2 xs (ys.set i zs) none)::(j,.dead)::s.h,s.n⟩:=by
 intro H F β a w hk C
 obtain⟨bd,hb,q1,q2,q3,q4,q5,q6⟩:=C.m.here' hc (by simp)
 obtain⟨bj,hbj,z1,z2,z3,z4⟩:=C.m.here' hj (by simp)
 have hU:=C.m.used _ _ hb
 have hUj:=C.m.used _ _ hbj
 have hne:id≠j:=by rintro rfl;rw[hc]at hj;simp at hj
 rcases q6 with ⟨_,_,_,h⟩|⟨g,cap,cur,h5,h6,h7,h8,h9,h10,h11,h12⟩
 ·simp at h
 have hi:=(h12.opu _ _ rfl).2
 have hoth:∀i',zhb (some (i,j)) i'=none→¬i=i':=fun i' h hh=>by simp[zhb,hh]at h
 have jb:∀b,bj.b=some b→b∉bd.bs∧b≠g:=fun b hbb=>⟨fun h=>hne (C.m.dis id j bd bj b hb hbj (.inr h) (.inl hbb)),fun h=>hne (C.m.dis id j bd bj b hb hbj (.inl (h▸h5)) (.inl hbb))⟩
 let bd':Bind:=⟨bd.v,bd.b,bd.n,bd.sz,bj.b.toList++bd.bs⟩
 have hin:∀b,b∈bj.b.toList→bj.b=some b:=fun q hq=>by
  cases hb:bj.b with
  | none=>rw[hb]at hq;simp at hq
  | some q'=>rw[hb]at hq;simp at hq;rw[hq]
 have hhas:∀b,bd'.has b→bd.has b∨bj.has b:=by
  intro b hb
  rcases hb with hb|hb
  ·exact .inl (.inl hb)
  ·rcases List.mem_append.1 hb with hb|hb
   ·exact .inr (.inl (hin b hb))
   ·exact .inl (.inr hb)
 obtain⟨S1,S2⟩:=C.m.step (w':=w) (h':=zae ((id,.nst e sz c e2 sz2 xs (ys.set i zs) none)::(j,.dead)::s.h)) (β':=zay (zay β id (some bd')) j none) (F':=F) (U':=(· < s.n)) (fun i=>i=id∨i=j)
  (fun j' hj=>by simp only[not_or]at hj;simp only[zay,if_neg (Ne.symm hj.1),if_neg (Ne.symm hj.2)])
  (fun j' hj=>by simp only[not_or]at hj;simp only[zae,if_neg (Ne.symm hj.1),if_neg (Ne.symm hj.2)])
  rfl rfl rfl (Nat.le_refl _) (fun _ _ _=>rfl) (fun _ h=>h) (fun _ h=>h) (fun b hb=>⟨C.m.fin b hb,.inl hb⟩)
  (fun j' bd0 hj hu hb'=>by
   rcases hj with rfl|rfl
   ·simp only[zay,if_neg (Ne.symm hne),if_true,Option.some.injEq]at hb'
    subst hb'
    exact⟨bd.bs,hb⟩
   ·simp[zay]at hb')
  (fun j' bd0 hj hb'=>by
   rcases hj with rfl|rfl
   ·simp only[zay,if_neg (Ne.symm hne),if_true,Option.some.injEq]at hb'
    subst hb'
    refine⟨hU,fun b hbb => ?_⟩
    rcases hhas b hbb with h|h
    ·have:=C.m.off _ _ b hb h
     exact⟨this.2.1,this.1,.inr ⟨j',bd,.inl rfl,hb,h⟩⟩
    ·have:=C.m.off _ _ b hbj h
     exact⟨this.2.1,this.1,.inr ⟨j,bj,.inr rfl,hbj,h⟩⟩
   ·simp[zay]at hb')
  (fun j1 j2 b1 b2 b h1 h2 hb1 hb2 _ _=>by
   have only:∀i bi,(i=id∨i=j)→zay (zay β id (some bd')) j none i=some bi→i=id:=by
    intro i bi hi hb
    rcases hi with rfl|rfl
    ·rfl
    ·simp[zay]at hb
   rw[only j1 b1 h1 hb1,only j2 b2 h2 hb2])
  (fun E j' hj' hd=>by
   rcases hj' with rfl|rfl
   ·refine⟨bd',by simp[zay,Ne.symm hne],?_⟩
    simp only[zae,if_true]
    have cin:InnOk w F bd'.bs e2 sz2 zs bj.v:=by
     rcases z4 with ⟨_,m2,m3⟩|⟨g2,cap2,cur2,m1,m2,m3,m4,m5,m6,m7⟩
     ·exact .inl ⟨m3,m2⟩
     ·exact .inr ⟨g2,cap2,cur2,m2,by simp[bd',m1],m3,m4,m5,m6,m7⟩
    refine⟨⟨q1.1,fun b hbb => ?_⟩,q2,by simp[q3],q4,q5,.inr ⟨g,cap,cur,h5,h6,h7,h8,h9,h10,fun h => ?_,?_⟩⟩
    ·rcases List.mem_append.1 hbb with hbb|hbb
     ·have hbb:=hin b hbb
      rcases z4 with ⟨m1,_⟩|⟨g2,cap2,cur2,m1,m2,m3,_⟩
      ·rw[hbb]at m1;simp at m1
      ·rw[hbb]at m1;cases m1;exact⟨cur2,m3⟩
     ·exact q1.2 b hbb
    ·rcases List.mem_append.1 h with h|h
     ·exact(jb g (hin g h)).2 rfl
     ·exact h11 h
    ·have cellc:∀i',i'<xs.length→∃u,w.cell? ⟨g,i'*sz+c,none⟩=some u∧((i'=i∧u=bj.v)∨(¬i=i'∧∃y,ys[i']? = some y∧InnOk w F bd.bs e2 sz2 y u)):=by
      intro i' hi'
      have hxl:xs[i'].length=sz:=q5 _ (List.getElem_mem hi')
      have hyi:i'<ys.length:=by rw[q3];exact hi'
      obtain⟨u,hu,hn⟩:=h12.cells i' _ _ (List.getElem?_eq_getElem hi') (List.getElem?_eq_getElem hyi) c (xs[i'][c]'(by rw[hxl];exact q4)) (by simp)
      refine⟨u,hu,?_⟩
      unfold NCell at hn
      simp only[if_true,zhb]at hn
      by_cases hii:i=i'
      ·rw[if_pos hii]at hn
       exact .inl ⟨hii.symm,hn.2.2 bj hbj⟩
      ·rw[if_neg hii]at hn
       exact .inr ⟨hii,_,List.getElem?_eq_getElem hyi,hn⟩
     have hold:∀b o n q,bj.v = .slice (some ⟨b,o,none⟩) n q→bj.b=some b:=by
      intro b o n q h
      rcases z4 with ⟨_,_,m3⟩|⟨g2,cap2,cur2,m1,m2,_⟩
      ·rw[m3]at h;simp at h
      ·rw[m2]at h
       simp only[Value.slice.injEq,Option.some.injEq,Addr.mk.injEq]at h
       rw[m1,h.1.1]
     refine⟨fun i' x y hx hy j' p hp => ?_,fun i1 i2 b o1 o2 n1 n2 k1 k2 l1 l2 _ _ c1 c2 => ?_,fun i' id' ho=>by simp at ho⟩
     ·have hi':i'<xs.length:=(List.getElem?_eq_some_iff.1 hx).1
      by_cases hjc:j'=c
      ·subst hjc
       obtain⟨u,hu,hn⟩:=cellc i' hi'
       refine⟨u,hu,?_⟩
       unfold NCell
       simp only[if_true,zhb]
       rcases hn with ⟨rfl,rfl⟩|⟨hii,y',hy',hn⟩
       ·rw[List.getElem?_set_self (by rw[q3];exact hi')]at hy
        cases hy
        exact cin
       ·rw[List.getElem?_set_ne hii,hy']at hy
        cases hy
        exact hn.wide (fun b hb=>⟨hb,rfl⟩) fun q hq=>⟨List.mem_append.2 (.inr hq),rfl⟩
      ·have hyi:i'<ys.length:=by rw[q3];exact hi'
       obtain⟨u,hu,hn⟩:=h12.cells i' x _ hx (List.getElem?_eq_getElem hyi) j' p hp
       refine⟨u,hu,?_⟩
       unfold NCell at hn ⊢
       rw[if_neg hjc]at hn ⊢
       exact hn
     ·obtain⟨u1,hu1,hn1⟩:=cellc i1 l1
      obtain⟨u2,hu2,hn2⟩:=cellc i2 l2
      rw[c1]at hu1;cases hu1
      rw[c2]at hu2;cases hu2
      rcases hn1 with ⟨rfl,e1⟩|⟨m1,y1,_,e1⟩<;>rcases hn2 with ⟨rfl,e2'⟩|⟨m2,y2,_,e2'⟩
      ·rfl
      ·exact((jb b (hold b _ _ _ e1.symm)).1 e2'.blk).elim
      ·exact((jb b (hold b _ _ _ e2'.symm)).1 e1.blk).elim
      ·have o1':zhb (some (i,j)) i1=none:=by simp[zhb,m1]
       have o2':zhb (some (i,j)) i2=none:=by simp[zhb,m2]
       exact h12.inj i1 i2 b o1 o2 n1 n2 k1 k2 l1 l2 o1' o2' c1 c2
   ·exact(hd (by simp[zae,hne])).elim)
 exact⟨F,_,C.ghost (Nat.le_refl _) S1 S2 fun b hb => .inl hb⟩
def unN (c sz2:Nat) (xs:List (List PV)) (ys:List (List (List PV))):List (List PV):=List.zipWith (fun x y=>x.set c (.sl sz2 y)) xs ys
theorem To.frzN {k:Nat} {s:St} (id e sz c e2 sz2:Nat) (xs:List (List PV)) (ys:List (List (List PV))) (hc:zae s.h id = .nst e sz c e2 sz2 xs ys none) :
 ToK k s ⟨s.t,(id,.row e sz (unN c sz2 xs ys))::s.h,s.n⟩:=by
 intro H F β a w hk C
 obtain⟨bd,hb,q1,q2,q3,q4,q5,q6⟩:=C.m.here' hc (by simp)
 have hU:=C.m.used _ _ hb
 let bd':Bind:=⟨bd.v,bd.b,bd.n,bd.sz,[]⟩
 have hF:∀b,b∈bd.bs→bd.b≠some b:=by
  intro b hbb h
  rcases q6 with ⟨h1,_⟩|⟨g,cap,cur,h5,_,_,_,_,_,h11,_⟩
  ·rw[h]at h1;simp at h1
  ·rw[h]at h5;cases h5;exact h11 hbb
 obtain⟨S1,S2⟩:=C.m.step (w':=w) (h':=zae ((id,.row e sz (unN c sz2 xs ys))::s.h)) (β':=zay β id (some bd')) (F':=fun b=>F b∨b∈bd.bs) (U':=(· < s.n)) (fun i=>i=id)
  (fun i hi=>by simp only[zay,if_neg (Ne.symm hi)]) (fun i hi=>by simp only[zae,if_neg (Ne.symm hi)]) rfl rfl rfl (Nat.le_refl _) (fun _ _ _=>rfl) (fun _ h=>h) (fun _ h => .inl h)
  (fun b hbb=>by
   rcases hbb with hbb|hbb
   ·exact⟨C.m.fin b hbb,.inl hbb⟩
   ·exact⟨(C.m.off _ _ b hb (.inr hbb)).2.1,.inr (.inr ⟨id,bd,rfl,hb,.inr hbb⟩)⟩)
  (fun i bd0 hi _ hb'=>by
   subst hi
   simp only[zay,if_true,Option.some.injEq]at hb'
   subst hb'
   exact⟨bd.bs,hb⟩)
  (fun i bd0 hi hb'=>by
   subst hi
   simp only[zay,if_true,Option.some.injEq]at hb'
   subst hb'
   refine⟨hU,fun b hbb => ?_⟩
   have hbb:=Bind.has_nil hbb
   have:=C.m.off _ _ b hb (.inl hbb)
   exact⟨this.2.1,fun h=>h.elim this.1 fun h=>hF b h hbb,.inr ⟨i,bd,rfl,hb,.inl hbb⟩⟩)
  (fun i j _ _ _ hi hj _ _ _ _=>by rw[hi,hj])
  (fun E i hi _=>by
   subst hi
   refine⟨bd',by simp[zay],?_⟩
   simp only[zae,if_true]
   have hl:(unN c sz2 xs ys).length=xs.length:=by simp[unN,q3]
   refine⟨⟨q1.1,rfl⟩,by rw[hl];exact q2,fun cs hcs => ?_,?_⟩
   ·obtain⟨q,hq⟩:=List.getElem?_of_mem hcs
    unfold unN at hq
    rw[List.getElem?_zipWith]at hq
    cases h1:xs[q]? with
    | none=>rw[h1]at hq;simp at hq
    | some x=>cases h2:ys[q]? with
     | none=>rw[h1,h2]at hq;simp at hq
     | some y =>
      rw[h1,h2]at hq
      simp only[Option.some.injEq]at hq
      subst hq
      rw[List.length_set];exact q5 x (List.mem_of_getElem? h1)
   ·rcases q6 with ⟨h1,h2,h3,_⟩|⟨g,cap,cur,h5,h6,h7,h8,h9,h10,h11,h12⟩
    ·refine .inl ⟨h1,?_,h3⟩
     exact List.eq_nil_of_length_eq_zero (by rw[hl,h2];rfl)
    ·refine .inr ⟨g,cap,cur,h5,by rw[hl];exact h6,h7,by rw[hl];exact h8,h9,h10,RelE.of fun q cs hq => ?_⟩
     unfold unN at hq
     rw[List.getElem?_zipWith]at hq
     cases h1:xs[q]? with
     | none=>rw[h1]at hq;simp at hq
     | some x=>cases h2:ys[q]? with
      | none=>rw[h1,h2]at hq;simp at hq
      | some y =>
       rw[h1,h2]at hq
       simp only[Option.some.injEq]at hq
       subst hq
       have hxl:=q5 x (List.mem_of_getElem? h1)
       refine⟨by rw[List.length_set];exact hxl,RelC.of fun j p hp => ?_⟩
       have hjl:j<x.length:=by have:=(List.getElem?_eq_some_iff.1 hp).1;simpa using this
       obtain⟨u,hu,hn⟩:=h12.cells q x y h1 h2 j x[j] (List.getElem?_eq_getElem hjl)
       refine⟨u,by simpa using hu,?_⟩
       unfold NCell at hn
       by_cases hj:j=c
       ·subst hj
        rw[List.getElem?_set_self hjl]at hp
        cases hp
        simp only[if_true,zhb]at hn
        simp only[RelP]
        rcases hn with ⟨rfl,rfl⟩|⟨g2,cap2,cur2,rfl,k2,k3,k4,k5,k6,k7⟩
        ·exact⟨none,0,rfl,Nat.le_refl _,Nat.zero_le _,.inl rfl⟩
        ·exact⟨_,cap2,rfl,k4,k5,.inr ⟨g2,0,rfl,.inr k2,RelE.mono E.f rfl _ _ _ k7⟩⟩
       ·rw[List.getElem?_set_ne (fun h=>hj h.symm),List.getElem?_eq_getElem hjl]at hp
        cases hp
        rw[if_neg hj]at hn
        exact RelP.mono E.f _ _ hn)
 exact⟨_,_,C.ghost (Nat.le_refl _) S1 S2 fun b hbb=>hbb.imp (fun h=>h) fun h=>⟨id,bd,hb,.inr h⟩⟩
theorem MemOk.wkc {W:World} {N U F:Nat→Prop} {β : Nat→Option Bind} {h h':Nat→Chunk} {w:World} (M:MemOk W N U F β h w) (hw:∀id,WkC (h id) (h' id)):MemOk W N U F β h' w:=by
 refine⟨M.size,M.os,M.tape,M.output,M.frame,M.fin,M.used,fun id hd => ?_,M.dis,M.off⟩
 have hn:h id ≠ .dead:=by
  intro e
  have:=hw id
  rw[e]at this
  cases hc:h' id<;>rw[hc]at this<;>first|exact hd hc|exact this
 obtain⟨bd,hb,hk⟩:=M.ch id hn
 exact⟨bd,hb,(hw id).run hk⟩
theorem Spec.keep {P:Program} {f:FuncId} {args:List AV} {r:AV} {e sz:Nat} {xs:List (List PV)} (S:Spec P f args [] r [.row e sz xs]):Spec P f args [] r [.keep e sz xs]:=by
 refine⟨S.1,S.2.1,fun w F β vs M hv=>(S.2.2 w F β vs M hv).mono ?_⟩
 rintro en w' ⟨v,F',β',h1,h2,h3⟩
 refine⟨v,F',β',h1,h2.wkc fun id => ?_,h3⟩
 cases id with
 | zero=>exact⟨rfl,rfl,rfl⟩
 | succ n=>exact trivial
def gaF:Nat→ByteArray→List Int→List Int × Int
 | 0,s,out=>if s=⟨#[]⟩then (out,0)else ([],4)
 | n+1,s,out=>if (zgk s).2.2=0 then gaF n (zgk s).2.1 (out ++ [z31 (zgk s).1])else ([],(zgk s).2.2)
def gaR (s:ByteArray):List Int × Int :=
 if (zgk s).2.2=0 then (if (zgk s).1≤1000 then gaF (zgk s).1 (zgk s).2.1 []else ([],2))else ([],(zgk s).2.2)
theorem z2n (s:ByteArray):(zgk s).1<18446744073709551616∧(zgk s).2.1.size≤s.size∧0≤(zgk s).2.2∧(zgk s).2.2≤4:=by
 obtain⟨e,r,hE,h1,h2⟩:=zwg s
 rw[hE.res]
 have hle:=hE.le
 by_cases he:e<s.size
 ·rw[h1 he]
  split
  ·refine⟨Nat.mod_lt _ (by decide),?_,by simp,by simp⟩
   simp only[ByteArray.size_extract];omega
  ·exact⟨by decide,Nat.zero_le _,by simp,by simp⟩
 ·rw[h2 (by omega)]
  refine⟨by simp,Nat.zero_le _,?_,?_⟩<;>(simp only;split<;>omega)
theorem zpq (s:ByteArray):(s=⟨#[]⟩)↔s.toList = []:=by
 rw[ByteArray.toList_eq]
 constructor
 ·rintro rfl;rfl
 ·intro h;obtain⟨⟨l⟩⟩:=s;simp at h;subst h;rfl
set_option maxHeartbeats 2000000 in
set_option maxRecDepth 20000 in
theorem zyi (s:ByteArray) (w:World) (hs:s.size≤140737488351232) :
 Calls Tryz.prog 36 #[.string s] w fun e w'=>(∃v,e = .returned (.tuple #[v,.int .i64 (gaR s).2])∧∃n,w'.ownsRow w.heap.size 3 1 v n ((gaR s).1.flatMap z6q))∧Below w.heap.size w w':=by
 have P:=PLift.up (z2l s w hs)
 have hgl:=z2n s
 obtain⟨r,hr⟩:∃r,r=gaR s:=⟨_,rfl⟩
 rw[←hr]
 unfold gaR at hr
 obtain⟨R,hR⟩:∃R,R=zgk s:=⟨_,rfl⟩
 rw[←hR]at P hgl hr
 obtain⟨n,s1,e1⟩:=R
 simp only at P hgl hr
 clear hR
 by_cases h0:e1=0
 ·subst h0
  rw[if_pos rfl]at hr
  by_cases hn:n≤1000
  ·rw[if_pos hn]at hr
   have HR:=PLift.up hr
   clear hr
   go_enter Tryz.func36,Tryz.ntmps36
   go_wp2_with fail
   refine P.down.mono ?_
   rintro e w1 ⟨rfl,hb1⟩
   have B1:=PLift.up hb1
   clear hb1 P
   go_wp2_with fail
   go_loopw [0,6,24] (fun sv v iv wr=>∃(k:Nat) (t:ByteArray) (out:List Int),k≤n∧iv = .int .u64 k∧sv = .string t∧t.size≤140737488351232∧Hid (gaF (n-k) t out=gaF n s1 []∧wr.ownsRow w.heap.size 3 1 v k (out.flatMap z6q)∧Below w.heap.size w wr)) (fun _ _ iv _=>n-(intOf iv).toNat)
   case atStart=>exact⟨0,s1,[],by omega,rfl,rfl,by omega,rfl,⟨by simp,.inl ⟨rfl,rfl⟩⟩,B1.down⟩
   case round =>
    obtain⟨k,t,out,hk,rfl,rfl,ht,hI⟩:=hrel
    have hB:=hI.out.2.2.size
    by_cases hlt:k<n
    ·have Q:=PLift.up (z2l t wr ht)
     have hql:=z2n t
     have hst:gaF (n-k) t out=if (zgk t).2.2=0 then gaF (n-(k+1)) (zgk t).2.1 (out ++ [z31 (zgk t).1])else ([],(zgk t).2.2):=by
      rw[show n-k=(n-(k+1))+1 from by omega];rfl
     obtain⟨R2,hR2⟩:∃R,R=zgk t:=⟨_,rfl⟩
     rw[←hR2]at Q hql hst
     obtain⟨x,t',e2⟩:=R2
     simp only at Q hql hst
     clear hR2
     have HI:=PLift.up hI.out
     clear hI
     by_cases h2:e2=0
     ·subst h2
      rw[if_pos rfl]at hst
      have HST:=PLift.up hst
      clear hst
      go_wp2_with fail
      refine Q.down.mono ?_
      rintro e w2 ⟨rfl,hb2⟩
      have HO2:=PLift.up (z0s HI.down.2.1 hb2)
      have B2:=PLift.up (HI.down.2.2.trans (hb2.mono hB))
      have hB2:=B2.down.size
      clear hb2 Q
      go_wp2_with fail
      refine(zw6 x hql.1 _).mono ?_
      rintro e w2 ⟨rfl,rfl⟩
      generalize hu:z31 x=u
      have HU:=PLift.up hu
      clear hu
      go_wp2_with (at_builtin;refine z8t _ rfl _ _ _ rfl w.heap.size _ _ _ ybw _ k (out.flatMap z6q) rfl (HO2.down.alloc _) (some ⟨w2.heap.size,0,none⟩) 1 1 [.int .i64 u] rfl ?_ ?_ ?_ ?_ ?_ ?_ ?_ ?_)
      ·rfl
      ·simp
      ·intro ad had j y hy
       obtain rfl:=Option.some.inj had
       match j,hy with
       | 0,hy=>simp at hy;subst hy;simp[Addr.add_lit,go_sem]
       | j+1,hy=>simp at hy
      ·simp[Value.oneCell']
      ·simp only[maxLen];omega
      ·omega
      ·simp;omega
      ·intro v' w3 hown hg _
       have hbb:Below w.heap.size w w3:=(B2.down.alloc (by omega) _).grown hg (by simp;omega) (fun q hq=>(HO2.down.lt q hq).1)
       obtain⟨a',c',rfl⟩:=z0r hown
       have HO:=PLift.up hown
       have HBB:=PLift.up hbb
       clear hown hbb hg
       go_wp2_with fail
       go_roundw
       case rel =>
        refine⟨k+1,t',out ++ [z31 x],by omega,by go_num,rfl,by omega,?_,?_,HBB.down⟩
        ·rw[←HST.down];exact HI.down.1
        ·rw[List.flatMap_append,HU.down];exact HO.down
       case measure=>simp[intOf];omega
     ·rw[if_neg h2]at hst
      have hr2:=(hst.symm.trans HI.down.1).trans HR.down.symm
      have z1:(e2 != 0)=true:=by simpa using h2
      have z2:(e2 == 0)=false:=by simpa using h2
      subst hr2
      have B1W:=PLift.up HI.down.2.2
      clear hst HR HI h2
      go_wp2_with fail
      refine Q.down.mono ?_
      rintro e w2 ⟨rfl,hb2⟩
      have HI2:=PLift.up (B1W.down.trans (hb2.mono hB))
      clear hb2 Q
      go_wp2_with fail
      go_returns
      exact⟨⟨_,rfl,0,⟨by simp,.inl ⟨rfl,rfl⟩⟩⟩,HI2.down⟩
    ·obtain rfl:k=n:=by omega
     have hz:=hI.out.1
     rw[Nat.sub_self]at hz
     have hz2:gaF 0 t out=if t=⟨#[]⟩then (out,0)else ([],4):=rfl
     rw[hz2]at hz
     have HI:=PLift.up hI.out
     clear hI hz2
     by_cases ht0:t=⟨#[]⟩
     ·rw[if_pos ht0]at hz
      have hr2:=hz.trans HR.down.symm
      subst hr2 ht0
      clear HR
      go_wp2_with fail
      go_returns
      exact⟨⟨_,rfl,_,HI.down.2.1⟩,HI.down.2.2⟩
     ·rw[if_neg ht0]at hz
      have hr2:=hz.trans HR.down.symm
      subst hr2
      clear HR
      have hte:t.toList.isEmpty=false:=by
       cases h:t.toList with
       | nil=>exact absurd ((zpq t).2 h) ht0
       | cons x l=>rfl
      have hte2:¬t.toList = []:=fun h=>ht0 ((zpq t).2 h)
      clear ht0
      go_wp2_with fail
      go_returns
      exact⟨⟨_,rfl,0,⟨by simp,.inl ⟨rfl,rfl⟩⟩⟩,HI.down.2.2⟩
  ·rw[if_neg hn]at hr
   subst hr
   go_enter Tryz.func36,Tryz.ntmps36
   go_wp2_with fail
   refine P.down.mono ?_
   rintro e w1 ⟨rfl,hb1⟩
   have B1:=PLift.up hb1
   clear hb1 P
   go_wp2_with fail
   go_returns
   exact⟨⟨_,rfl,0,⟨by simp,.inl ⟨rfl,rfl⟩⟩⟩,B1.down⟩
 ·rw[if_neg h0]at hr
  have z1:(e1 != 0)=true:=by simpa using h0
  have z2:(e1 == 0)=false:=by simpa using h0
  subst hr
  clear h0
  go_enter Tryz.func36,Tryz.ntmps36
  go_wp2_with fail
  refine P.down.mono ?_
  rintro e w1 ⟨rfl,hb1⟩
  have B1:=PLift.up hb1
  clear hb1 P
  go_wp2_with fail
  go_returns
  exact⟨⟨_,rfl,0,⟨by simp,.inl ⟨rfl,rfl⟩⟩⟩,B1.down⟩
end Go.Proofs.YtmjbgbmegbkmhaaGreat
namespace Go.Proofs.YtmjbgbmegbkmhaaGreat
set_option linter.all false
def z0g (a:Int) (m:Nat):List Int:=(List.range m).map fun (j:Nat)=>a+(j:Int)
theorem zp6 (a:Int) (m:Nat):z0g a (m+1)=a::z0g (a+1) m:=by
 unfold z0g
 rw[List.range_succ_eq_map,List.map_cons,List.map_map]
 simp only[Int.natCast_zero,Int.add_zero,List.cons.injEq,true_and]
 apply List.map_congr_left
 intro j _
 simp only[Function.comp]
 omega
theorem zus {a k:Int} {m:Nat} (h:k∈z0g a m):a≤k∧k<a+m:=by
 unfold z0g at h
 obtain⟨j,hj,rfl⟩:=List.mem_map.1 h
 have:=List.mem_range.1 hj
 omega
theorem zfy:∀(m:Nat) (a:Int) (s:List Int) (p:Int→Bool),s.Pairwise (· < ·)→(∀x∈s,a≤x∧x<a+m)→(∀k,a≤k→k<a+m→(p k=true↔k∈s))→(z0g a m).filter p=s
 | 0,a,s,p,_,hb,_=>by
  cases s with
  | nil=>rfl
  | cons x r=>have:=hb x (by simp);omega
 | m+1,a,s,p,hs,hb,hp=>by
  rw[zp6,List.filter_cons]
  cases s with
  | nil =>
   have h0:p a=false:=by
    cases h:p a with
    | false=>rfl
    | true=>have:=(hp a (by omega) (by omega)).1 h;simp at this
   rw[h0]
   exact zfy m (a+1) [] p .nil (by simp) fun k h1 h2=>by have:=hp k (by omega) (by omega);simpa using this
  | cons x r =>
   obtain⟨hx,hr⟩:=List.pairwise_cons.1 hs
   have hbx:=hb x (by simp)
   by_cases hxa:x=a
   ·subst hxa
    rw[if_pos ((hp x (by omega) (by omega)).2 (by simp))]
    congr 1
    refine zfy m (x+1) r p hr (fun y hy => ?_) fun k h1 h2 => ?_
    ·have:=hx y hy;have:=hb y (by simp[hy]);omega
    ·have:=hp k (by omega) (by omega)
     rw[this]
     simp only[List.mem_cons]
     constructor
     ·rintro (h|h)
      ·omega
      ·exact h
     ·exact .inr
   ·have h0:p a=false:=by
     cases h:p a with
     | false=>rfl
     | true =>
      have:=(hp a (by omega) (by omega)).1 h
      rcases List.mem_cons.1 this with h|h
      ·exact(hxa h.symm).elim
      ·have:=hx a h;omega
    rw[h0]
    refine zfy m (a+1) (x::r) p hs (fun y hy => ?_) fun k h1 h2=>hp k (by omega) (by omega)
    have h3:=hb y hy
    rcases List.mem_cons.1 hy with rfl|hy
    ·omega
    ·have:=hx y hy;omega
def ziq (g:Int):List Int→Int × List Int
 | []=>(g,[])
 | h::r=>if h=g then ziq (g+1) r else (g,h::r)
theorem zuq:∀(s:List Int) (g:Int),s.Pairwise (· < ·)→(∀x∈s,g≤x) →
 g≤(ziq g s).1∧(ziq g s).2.Pairwise (· < ·)∧(∀x∈(ziq g s).2,(ziq g s).1<x∧x∈s)∧(∀k,g≤k→k<(ziq g s).1→k∈s)∧(∀k∈s,(ziq g s).1≤k→k∈(ziq g s).2)∧(ziq g s).1∉s
 | [],g,_,_=>by simp[ziq]
 | h::r,g,hs,hb=>by
  obtain⟨h1,h2⟩:=List.pairwise_cons.1 hs
  unfold ziq
  by_cases hg:h=g
  ·subst hg
   rw[if_pos rfl]
   obtain⟨a1,a2,a3,a4,a5,a6⟩:=zuq r (h+1) h2 (fun x hx=>by have:=h1 x hx;omega)
   refine⟨by omega,a2,fun x hx=>⟨(a3 x hx).1,by simp[(a3 x hx).2]⟩,fun k k1 k2 => ?_,fun k hk k1 => ?_,?_⟩
   ·by_cases hk:k=h
    ·simp[hk]
    ·simp[a4 k (by omega) k2]
   ·rcases List.mem_cons.1 hk with rfl|hk
    ·omega
    ·exact a5 k hk k1
   ·simp only[List.mem_cons,not_or]
    exact⟨by omega,a6⟩
  ·rw[if_neg hg]
   have hgh:g<h:=by have:=hb h (by simp);omega
   refine⟨by simp,hs,fun x hx=>⟨?_,hx⟩,fun k k1 k2=>by simp at k2;omega,fun k hk _=>hk,?_⟩
   ·rcases List.mem_cons.1 hx with rfl|hx
    ·exact hgh
    ·have:=h1 x hx;simp;omega
   ·simp only[List.mem_cons,not_or]
    exact⟨by omega,fun hm=>by have:=h1 g hm;omega⟩
def zxv (n:Int) (s:List Int):List Int:=s.take (s.countP (· < n))++n::s.drop (s.countP (· < n))
theorem zwm:∀(s:List Int) (n:Int),s.Pairwise (· < ·)→(∀x∈s.take (s.countP (· < n)),x<n)∧(∀x∈s.drop (s.countP (· < n)),n≤x)
 | [],_,_=>by simp
 | h::r,n,hs=>by
  obtain⟨h1,h2⟩:=List.pairwise_cons.1 hs
  obtain⟨i1,i2⟩:=zwm r n h2
  by_cases hn:h<n
  ·rw[List.countP_cons_of_pos (by simpa using hn)]
   refine⟨fun x hx => ?_,fun x hx=>i2 x (by simpa using hx)⟩
   rw[List.take_succ_cons]at hx
   rcases List.mem_cons.1 hx with rfl|hx
   ·exact hn
   ·exact i1 x hx
  ·have h0:r.countP (· < n)=0:=by
    rw[List.countP_eq_zero]
    intro x hx
    have:=h1 x hx
    simp;omega
   rw[List.countP_cons_of_neg (by simpa using hn),h0]
   refine⟨by simp,fun x hx => ?_⟩
   rw[List.drop_zero]at hx
   rcases List.mem_cons.1 hx with rfl|hx
   ·omega
   ·have:=h1 x hx;omega
theorem zqe (n:Int) (s:List Int) (x:Int):x∈zxv n s↔x=n∨x∈s:=by
 unfold zxv
 rw[List.mem_append,List.mem_cons]
 have:x∈s↔x∈s.take (s.countP (· < n))∨x∈s.drop (s.countP (· < n)):=by rw[←List.mem_append,List.take_append_drop]
 rw[this]
 constructor
 ·rintro (h|h|h)
  ·exact .inr (.inl h)
  ·exact .inl h
  ·exact .inr (.inr h)
 ·rintro (h|h|h)
  ·exact .inr (.inl h)
  ·exact .inl h
  ·exact .inr (.inr h)
theorem z43 (n:Int) (s:List Int) (hs:s.Pairwise (· < ·)) (hn:n∉s):(zxv n s).Pairwise (· < ·):=by
 obtain⟨h1,h2⟩:=zwm s n hs
 unfold zxv
 refine List.pairwise_append.2 ⟨hs.take,List.pairwise_cons.2 ⟨fun x hx => ?_,hs.drop⟩,fun x hx y hy => ?_⟩
 ·have:=h2 x hx
  have:x≠n:=fun e=>hn (e▸List.mem_of_mem_drop hx)
  omega
 ·have h3:=h1 x hx
  rcases List.mem_cons.1 hy with rfl|hy
  ·exact h3
  ·have:=h2 y hy;omega
def zg3 (got:Int) (held:List Int) (n:Int):Int × List Int :=
 if n=got then ziq (got+1) held else if got<n∧n∉held then (got,zxv n held)else (got,held)
def zht (got:Int) (held:List Int) (n k:Int):Bool:=decide (k<got)||decide (k=n)||decide (k∈held)
theorem z61 (got next:Int) (held:List Int) (n:Int) (hg:got≤next) (hs:held.Pairwise (· < ·)) (hb:∀x∈held,got+1≤x∧x<next) (hn:0≤n∧n<next) :
 got≤(zg3 got held n).1∧(zg3 got held n).1≤next∧(∀k,k<(zg3 got held n).1→zht got held n k=true)∧zht got held n (zg3 got held n).1=false∧(z0g (zg3 got held n).1 (next-(zg3 got held n).1).toNat).filter (zht got held n)=(zg3 got held n).2:=by
 have th:∀k,zht got held n k=true↔(k<got∨k=n∨k∈held):=by intro k;simp[zht,or_assoc]
 have thf:∀k,zht got held n k=false↔¬(k<got∨k=n∨k∈held):=by intro k;rw[←th];simp
 unfold zg3
 by_cases h1:n=got
 ·subst h1
  rw[if_pos rfl]
  obtain⟨a1,a2,a3,a4,a5,a6⟩:=zuq held (n+1) hs (fun x hx=>(hb x hx).1)
  generalize ziq (n+1) held=r at *
  have hle:r.1≤next:=by
   by_cases h:r.1=n+1
   ·omega
   ·have:=(hb _ (a4 (r.1-1) (by omega) (by omega))).2;omega
  refine⟨by omega,hle,fun k hk=>(th k).2 ?_,(thf _).2 ?_,?_⟩
  ·by_cases h:k<n
   ·exact .inl h
   ·by_cases h':k=n
    ·exact .inr (.inl h')
    ·exact .inr (.inr (a4 k (by omega) hk))
  ·rintro (h|h|h)
   ·omega
   ·omega
   ·exact a6 h
  ·refine zfy _ _ _ _ a2 (fun x hx => ?_) fun k k1 k2 => ?_
   ·have h2:=a3 x hx;have:=hb x h2.2;omega
   ·rw[th]
    constructor
    ·rintro (h|h|h)
     ·omega
     ·omega
     ·exact a5 k h k1
    ·intro h;exact .inr (.inr (a3 k h).2)
 ·rw[if_neg h1]
  have hgot:∀h2:List Int,h2.Pairwise (· < ·)→(∀k,got≤k→(k∈h2↔(k=n∧got≤n)∨k∈held))→(∀x∈h2,got≤x∧x<next)→(∀k,k<got→zht got held n k=true)∧zht got held n got=false∧(z0g got (next-got).toNat).filter (zht got held n)=h2:=by
   intro h2 p1 p2 p3
   refine⟨fun k hk=>(th k).2 (.inl hk),(thf _).2 ?_,zfy _ _ _ _ p1 (fun x hx => ?_) fun k k1 k2 => ?_⟩
   ·rintro (h|h|h)
    ·omega
    ·exact h1 h.symm
    ·have:=hb got h;omega
   ·have:=p3 x hx;omega
   ·rw[th,p2 k k1]
    constructor
    ·rintro (h|h|h)
     ·omega
     ·exact .inl ⟨h,by omega⟩
     ·exact .inr h
    ·rintro (h|h)
     ·exact .inr (.inl h.1)
     ·exact .inr (.inr h)
  by_cases h2:got<n∧n∉held
  ·rw[if_pos h2]
   obtain⟨a1,a2,a3⟩:=hgot (zxv n held) (z43 n held hs h2.2) (fun k hk=>by rw[zqe];constructor<;>(rintro (h|h)<;>first|exact .inl ⟨h,by omega⟩|exact .inl h.1|exact .inr h)) (fun x hx=>by
    rcases (zqe n held x).1 hx with rfl|hx
    ·omega
    ·have:=hb x hx;omega)
   exact⟨Int.le_refl _,by omega,a1,a2,a3⟩
  ·rw[if_neg h2]
   have hd:n<got∨n∈held:=by
    by_cases h:n∈held
    ·exact .inr h
    ·left
     have:¬got<n:=fun h'=>h2 ⟨h',h⟩
     omega
   obtain⟨a1,a2,a3⟩:=hgot held hs (fun k hk=>by
    constructor
    ·exact .inr
    ·rintro (⟨rfl,h⟩|h)
     ·rcases hd with hd|hd
      ·omega
      ·exact hd
     ·exact h) (fun x hx=>by have:=hb x hx;omega)
   exact⟨Int.le_refl _,by omega,a1,a2,a3⟩
end Go.Proofs.YtmjbgbmegbkmhaaGreat
namespace Go.Proofs.YtmjbgbmegbkmhaaGreat
set_option linter.all false
open Go.RowKit
structure Lnk where
 window:Int
 sent:List ByteArray
 base:Int
 next:Int
 way:List Int
 acks:List Int
 got:List ByteArray
 held:List Int
deriving Inhabited
structure Evt where
 kind:Int
 at_:Int
 keep:Bool
 text:ByteArray
deriving Inhabited
structure LnkR (l : Lnk) : Prop where
 w:1≤l.window∧l.window≤16
 s:l.sent.length≤200
 y:l.way.length≤1000
 a:l.acks.length≤1000
 g:l.got.length≤l.sent.length
 p:l.got=l.sent.take l.got.length
 b:0≤l.base∧l.base≤l.got.length
 h:l.held.length≤l.sent.length
 n:(l.got.length:Int)+l.held.length≤l.next∧l.next≤l.base+l.window∧l.next≤l.sent.length
 wy:∀n∈l.way,0≤n∧n<l.next
 ak:∀n∈l.acks,0≤n∧n≤l.got.length
 hd:∀n∈l.held,(l.got.length:Int)+1≤n∧n<l.next
 up:l.held.Pairwise (· < ·)
theorem z0f:∀(m:Nat) (a:Int),(z0g a m).Pairwise (· < ·)
 | 0,_ => .nil
 | m+1,a=>by
  rw[zp6]
  exact List.pairwise_cons.2 ⟨fun x hx=>by have:=zus hx;omega,z0f m (a+1)⟩
theorem z4y (a:Int) (m:Nat):(z0g a m).length=m:=by simp[z0g]
structure ComesOk (l : Lnk) (r : Int × List Int) : Prop where
 g:(l.got.length:Int)≤r.1∧r.1≤l.next
 n:r.1+r.2.length≤l.next
 h:∀x∈r.2,r.1+1≤x∧x<l.next
 up:r.2.Pairwise (· < ·)
theorem LnkR.comes {l:Lnk} (R:LnkR l) {n:Int} (hn:0≤n∧n<l.next):ComesOk l (zg3 l.got.length l.held n):=by
 have hgn:(l.got.length:Int)≤l.next:=by have:=R.n;omega
 obtain⟨c1,c2,c3,c4,c5⟩:=z61 l.got.length l.next l.held n hgn R.up R.hd hn
 generalize zg3 l.got.length l.held n=r at *
 have hm:∀x∈r.2,r.1+1≤x∧x<l.next:=by
  intro x hx
  rw[←c5]at hx
  obtain⟨h1,h2⟩:=List.mem_filter.1 hx
  have h3:=zus h1
  have:x≠r.1:=fun e=>by rw[e,c4]at h2;simp at h2
  omega
 have hup:r.2.Pairwise (· < ·):=by rw[←c5];exact(z0f _ _).filter _
 refine⟨⟨c1,c2⟩,?_,hm,hup⟩
 have:r.2.length≤(l.next-r.1).toNat:=by
  rw[←c5]
  exact Nat.le_trans (List.length_filter_le _ _) (by rw[z4y];exact Nat.le_refl _)
 omega
section
variable {α : Type} [Inhabited α] (key : α → Int)
def zc5 (l:List α) (i j:Nat):List α := (l.set i (l.getD j default)).set j (l.getD i default)
theorem zap (l:List α) (i j:Nat):(zc5 l i j).length=l.length:=by simp[zc5]
theorem zbz (l:List α) {i j k:Nat} (hi:i<l.length) (hj:j<l.length) (hk:k<l.length):(zc5 l i j).getD k default=if k=j then l.getD i default else if k=i then l.getD j default else l.getD k default:=by
 unfold zc5
 rw[zac _ _ (by simpa using hk),List.getElem_set,List.getElem_set]
 by_cases h1:j=k
 ·rw[if_pos h1,if_pos h1.symm]
 ·rw[if_neg h1,if_neg (Ne.symm h1)]
  by_cases h2:i=k
  ·rw[if_pos h2,if_pos h2.symm]
  ·rw[if_neg h2,if_neg (Ne.symm h2),zac _ _ hk]
theorem mem_getD {l:List α} {x : α} : x∈l↔∃k,k<l.length∧l.getD k default=x:=by
 constructor
 ·intro h
  obtain⟨k,hk,e⟩:=List.getElem_of_mem h
  exact⟨k,hk,by rw[zac _ _ hk];exact e⟩
 ·rintro⟨k,hk,rfl⟩
  exact zaz l k hk
theorem zks (l:List α) {i j:Nat} (hi:i<l.length) (hj:j<l.length) (x : α):x∈zc5 l i j↔x∈l:=by
 rw[mem_getD,mem_getD,zap]
 constructor
 ·rintro⟨k,hk,e⟩
  rw[zbz l hi hj hk]at e
  split at e
  ·exact⟨i,hi,e⟩
  ·split at e
   ·exact⟨j,hj,e⟩
   ·exact⟨k,hk,e⟩
 ·rintro⟨k,hk,e⟩
  by_cases h1:k=i
  ·subst h1
   refine⟨j,hj,?_⟩
   rw[zbz l hi hj hj,if_pos rfl];exact e
  ·by_cases h2:k=j
   ·subst h2
    refine⟨i,hi,?_⟩
    rw[zbz l hi hj hi]
    by_cases h3:i=k
    ·exact absurd h3.symm h1
    ·rw[if_neg h3,if_pos rfl];exact e
   ·exact⟨k,hk,by rw[zbz l hi hj hk,if_neg h2,if_neg h1];exact e⟩
def par (k:Nat):Nat:=(k-1)/2
theorem zeg (j:Nat):((j:Int)-1).tdiv 2=((par j:Nat):Int):=by
 cases j with
 | zero=>rfl
 | succ k =>
  rw[show ((k+1:Nat):Int)-1=(k:Int)from by omega,Int.tdiv_eq_ediv_of_nonneg (by omega)]
  simp[par]
def zmr (l:List α) (n:Nat):Prop:=∀k,0<k→k<n→key (l.getD (par k) default)≤key (l.getD k default)
def hup (l:List α) (j:Nat):List α := if par j=j∨¬key (l.getD j default)<key (l.getD (par j) default)then l else hup (zc5 l (par j) j) (par j)
termination_by j
decreasing_by simp only[par,not_or]at *;omega
theorem ybj (l:List α) (j:Nat):(hup key l j).length=l.length:=by
 induction j using Nat.strongRecOn generalizing l with
 | _ j ih =>
  rw[hup]
  split
  ·rfl
  ·rename_i h
   rw[ih (par j) (by simp only[par,not_or]at *;omega),zap]
theorem ybi (l:List α) (j:Nat) (hj:j<l.length) (x : α):x∈hup key l j↔x∈l:=by
 induction j using Nat.strongRecOn generalizing l with
 | _ j ih =>
  rw[hup]
  split
  ·rfl
  ·rename_i h
   have:par j<j:=by simp only[par,not_or]at *;omega
   rw[ih (par j) this _ (by rw[zap];omega),zks _ (by omega) hj]
theorem z59 (l:List α) (j:Nat) (hj:j<l.length) (h1:∀k,0<k→k<l.length→k≠j→key (l.getD (par k) default)≤key (l.getD k default))
 (h2:0<j→∀k,0<k→k<l.length→par k=j→key (l.getD (par j) default)≤key (l.getD k default)):zmr key (hup key l j) l.length:=by
 induction j using Nat.strongRecOn generalizing l with
 | _ j ih =>
  rw[hup]
  split
  ·rename_i h
   intro k hk hkl
   by_cases e:k=j
   ·subst e
    rcases h with h|h
    ·simp only[par]at h;omega
    ·omega
   ·exact h1 k hk hkl e
  ·rename_i h
   rw[not_or,Decidable.not_not]at h
   obtain⟨e1,e2⟩:=h
   have lt:par j<j:=by simp only[par]at *;omega
   have hi:par j<l.length:=by omega
   have G:∀k,k<l.length→(zc5 l (par j) j).getD k default=if k=j then l.getD (par j) default else if k=par j then l.getD j default else l.getD k default:=fun k hk=>zbz l hi hj hk
   have:=ih (par j) lt (zc5 l (par j) j) (by rw[zap];exact hi) (fun k hk hkl hne=>by
    rw[zap]at hkl
    rw[G k hkl,G (par k) (by simp only[par]at *;omega)]
    by_cases a:k=j
    ·subst a
     rw[if_neg (by omega),if_pos rfl,if_pos rfl];omega
    ·rw[if_neg a,if_neg hne]
     by_cases b:par k=j
     ·rw[if_pos b]
      exact h2 (by omega) k hk hkl b
     ·rw[if_neg b]
      by_cases c:par k=par j
      ·rw[if_pos c]
       have:=h1 k hk hkl a
       rw[c]at this;omega
      ·rw[if_neg c];exact h1 k hk hkl a) (fun hp k hk hkl hpk=>by
    rw[zap]at hkl
    have q1:par (par j)<par j:=by simp only[par]at *;omega
    have q2:=h1 (par j) hp hi (by omega)
    rw[G k hkl,G _ (by omega),if_neg (by omega),if_neg (by omega)]
    by_cases a:k=j
    ·rw[if_pos a];exact q2
    ·have:k≠par j:=by intro e;rw[e]at hpk;omega
     rw[if_neg a,if_neg this]
     have:=h1 k hk hkl a
     rw[hpk]at this;omega)
   rwa [zap]at this
def kid (l:List α) (i n:Nat):Nat:=if 2*i+2<n∧key (l.getD (2*i+2) default)<key (l.getD (2*i+1) default)then 2*i+2 else 2*i+1
theorem zq3 (l:List α) (i n:Nat):i<kid key l i n:=by unfold kid;split<;>omega
theorem z1u (l:List α) (i n:Nat) (h:2*i+1<n):kid key l i n<n:=by unfold kid;split<;>omega
def hdn (l:List α) (i n:Nat):List α := if n≤2*i+1∨¬key (l.getD (kid key l i n) default)<key (l.getD i default)then l else hdn (zc5 l i (kid key l i n)) (kid key l i n) n
termination_by n-i
decreasing_by
 rename_i h
 have h1:=zq3 key l i n
 rw[not_or]at h
 omega
theorem zot (l:List α) (i n:Nat):(hdn key l i n).length=l.length:=by
 induction hm:n-i using Nat.strongRecOn generalizing l i with
 | _ m ih =>
  rw[hdn]
  split
  ·rfl
  ·rename_i h
   have h1:=zq3 key l i n
   rw[ih _ (by omega) _ _ rfl,zap]
theorem ybm (l:List α) (i n:Nat) (hn:n≤l.length) (x : α):x∈hdn key l i n↔x∈l:=by
 induction hm:n-i using Nat.strongRecOn generalizing l i with
 | _ m ih =>
  rw[hdn]
  split
  ·rfl
  ·rename_i h
   have h1:=zq3 key l i n
   have h2:=z1u key l i n (by omega)
   rw[ih _ (by omega) _ _ (by rw[zap];exact hn) rfl,zks _ (by omega) (by omega)]
theorem ybl (l:List α) (i n k:Nat) (hn:n≤l.length) (hk:n≤k) (hkl:k<l.length):(hdn key l i n).getD k default=l.getD k default:=by
 induction hm:n-i using Nat.strongRecOn generalizing l i with
 | _ m ih =>
  rw[hdn]
  split
  ·rfl
  ·rename_i h
   have h1:=zq3 key l i n
   have h2:=z1u key l i n (by omega)
   rw[ih _ (by omega) _ _ (by rw[zap];exact hn) (by rw[zap];exact hkl) rfl,zbz _ (by omega) (by omega) hkl,if_neg (by omega),if_neg (by omega)]
theorem z6a (l:List α) (i n:Nat) (hn:n≤l.length) (h1:∀k,0<k→k<n→par k≠i→key (l.getD (par k) default)≤key (l.getD k default))
 (h2:0<i→∀k,0<k→k<n→par k=i→key (l.getD (par i) default)≤key (l.getD k default)):zmr key (hdn key l i n) n:=by
 induction hm:n-i using Nat.strongRecOn generalizing l i with
 | _ m ih =>
  have kd:∀k,0<k→k<n→par k=i→key (l.getD (kid key l i n) default)≤key (l.getD k default):=by
   intro k hk hkn hp
   have:k=2*i+1∨k=2*i+2:=by simp only[par]at hp;omega
   unfold kid
   rcases this with e|e
   ·subst e
    split
    ·rename_i h;omega
    ·exact Int.le_refl _
   ·subst e
    split
    ·exact Int.le_refl _
    ·rename_i h
     by_cases h3:key (l.getD (2*i+2) default)<key (l.getD (2*i+1) default)
     ·exact absurd ⟨hkn,h3⟩ h
     ·omega
  rw[hdn]
  split
  ·rename_i h
   intro k hk hkn
   by_cases e:par k=i
   ·rcases h with h|h
    ·simp only[par]at e;omega
    ·have:=kd k hk hkn e
     rw[e];omega
   ·exact h1 k hk hkn e
  ·rename_i h
   rw[not_or,Decidable.not_not]at h
   have g1:=zq3 key l i n
   have g2:=z1u key l i n (by omega)
   have gp:par (kid key l i n)=i:=by unfold kid;simp only[par];split<;>omega
   generalize kid key l i n=j at *
   have G:∀k,k<l.length→(zc5 l i j).getD k default=if k=j then l.getD i default else if k=i then l.getD j default else l.getD k default:=fun k hk=>zbz l (by omega) (by omega) hk
   refine ih (n-j) (by omega) (zc5 l i j) j (by rw[zap];exact hn) (fun k hk hkn hpk => ?_) (fun hj k hk hkn hpk => ?_) rfl
   ·have hp:par k<k:=by simp only[par]at *;omega
    rw[G k (by omega),G (par k) (by omega)]
    by_cases a:k=j
    ·subst a
     rw[if_pos rfl,if_neg (by omega),if_pos gp];omega
    ·rw[if_neg a,if_neg hpk]
     by_cases b:k=i
     ·subst b
      rw[if_pos rfl,if_neg (by omega)]
      have:=h2 hk j (by omega) (by omega) gp
      exact this
     ·rw[if_neg b]
      by_cases c:par k=i
      ·rw[if_pos c];exact kd k hk hkn c
      ·rw[if_neg c];exact h1 k hk hkn c
   ·have hp:par k<k:=by simp only[par]at *;omega
    rw[G k (by omega),if_neg (by omega),if_neg (by omega),gp,G i (by omega),if_neg (by omega),if_pos rfl]
    have:=h1 k hk hkn (by omega)
    rw[hpk]at this;exact this
theorem zos {l:List α} {n:Nat} (h:zmr key l n):∀k,k<n→key (l.getD 0 default)≤key (l.getD k default):=by
 intro k
 induction k using Nat.strongRecOn with
 | _ k ih =>
  intro hk
  rcases Nat.eq_zero_or_pos k with e|e
  ·subst e;exact Int.le_refl _
  ·have:=ih (par k) (by simp only[par];omega) (by simp only[par];omega)
   have:=h k e hk
   omega
def zdp (l:List α) (x : α):List α := hup key (l ++ [x]) l.length
def zfp (l:List α):List α := (hdn key (zc5 l 0 (l.length-1)) 0 (l.length-1)).take (l.length-1)
theorem zlx (l:List α) (x : α) (k:Nat) (h:k<l.length):(l ++ [x]).getD k default=l.getD k default:=by
 rw[zac _ _ (by simp;omega),zac _ _ h,List.getElem_append_left h]
theorem zlu (l:List α) (x : α):(zdp key l x).length=l.length+1:=by unfold zdp;rw[ybj];simp
theorem zdi (l:List α) (x y : α):y∈zdp key l x↔y∈l∨y=x:=by
 unfold zdp
 rw[ybi _ _ _ (by simp)];simp
theorem zi7 (l:List α) (x : α) (h:zmr key l l.length):zmr key (zdp key l x) (zdp key l x).length:=by
 rw[zlu]
 have:=z59 key (l ++ [x]) l.length (by simp) (fun k hk hkl hne=>by
  simp only[List.length_append,List.length_cons,List.length_nil]at hkl
  have:par k<k:=by simp only[par]at *;omega
  rw[zlx _ _ _ (by omega),zlx _ _ _ (by omega)];exact h k hk (by omega)) (fun _ k hk hkl hp=>by
  simp only[List.length_append,List.length_cons,List.length_nil,par]at *;omega)
 simpa[zdp]using this
theorem zpp (l:List α) (n k:Nat) (h:k<n):(l.take n).getD k default=l.getD k default:=by
 simp only[List.getD_eq_getElem?_getD,List.getElem?_take,if_pos h]
theorem zgj (l:List α):(zfp key l).length=l.length-1:=by unfold zfp;rw[List.length_take,zot,zap];omega
theorem zia (l:List α) (hl:0<l.length) (h:zmr key l l.length):zmr key (zfp key l) (zfp key l).length:=by
 rw[zgj]
 have:=z6a key (zc5 l 0 (l.length-1)) 0 (l.length-1) (by rw[zap];omega) (fun k hk hkn hp=>by
  have q:par k<k:=by simp only[par]at *;omega
  rw[zbz _ (by omega) (by omega) (by omega),zbz _ (by omega) (by omega) (by omega),if_neg (by omega),if_neg (by omega),if_neg (by omega),if_neg (by omega)]
  exact h k hk (by omega)) (fun h0=>absurd h0 (Nat.lt_irrefl _))
 intro k hk hkn
 unfold zfp
 rw[zpp _ _ _ hkn,zpp _ _ _ (by simp only[par]at *;omega)]
 exact this k hk hkn
theorem zq8 (l:List α) (hl:0<l.length):(hdn key (zc5 l 0 (l.length-1)) 0 (l.length-1)).getD (l.length-1) default=l.getD 0 default:=by
 rw[ybl _ _ _ _ _ (by rw[zap];omega) (Nat.le_refl _) (by rw[zap];omega),zbz _ hl (by omega) (by omega),if_pos rfl]
theorem zfj (l:List α) (hl:0<l.length) (x : α):x∈l↔x=l.getD 0 default∨x∈zfp key l:=by
 have e:hdn key (zc5 l 0 (l.length-1)) 0 (l.length-1)=zfp key l ++ [l.getD 0 default]:=by
  have h1:=zq8 key l hl
  have h2:(hdn key (zc5 l 0 (l.length-1)) 0 (l.length-1)).length=l.length-1+1:=by rw[zot,zap];omega
  unfold zfp
  rw[←h1,←zan _ _ (by omega),List.take_of_length_le (by omega)]
 rw[←zks l hl (show l.length-1<l.length by omega),←ybm key _ 0 (l.length-1) (by rw[zap];omega),e]
 simp[or_comm]
end
def Adj (W p n:Nat):Prop:=n+W=p∨(n+1=p∧0<p % W)∨(p+1=n∧0<n % W)∨p+W=n
theorem Adj.symm {W p n:Nat} (h:Adj W p n):Adj W n p:=by
 rcases h with h|⟨h,h'⟩|⟨h,h'⟩|h
 ·exact .inr (.inr (.inr h))
 ·exact .inr (.inr (.inl ⟨h,h'⟩))
 ·exact .inr (.inl ⟨h,h'⟩)
 ·exact .inl h
theorem Adj.ne {W p n:Nat} (hW:0<W) (h:Adj W p n):p≠n:=by
 rcases h with h|⟨h,h'⟩|⟨h,h'⟩|h<;>omega
def zl8 (W H p:Nat):List Nat:=(if 0<p/W then [p-W]else [])++(if 0<p % W then [p-1]else [])++(if p % W+1<W then [p+1]else [])++(if p/W+1<H then [p+W]else [])
theorem zuh {W:Nat} (hW:0<W) (p:Nat):(p+1) % W=if p % W+1=W then 0 else p % W+1:=by
 have h1:=Nat.div_add_mod p W
 have h2:=Nat.mod_lt p hW
 have e:p+1=W*(p/W)+(p % W+1):=by omega
 rw[e,Nat.mul_add_mod]
 split
 ·rename_i h;rw[h,Nat.mod_self]
 ·rename_i h;exact Nat.mod_eq_of_lt (by omega)
theorem zm8 {W H p n:Nat} (hW:0<W) (hp:p<W*H):n∈zl8 W H p↔n<W*H∧Adj W p n:=by
 have h1:=Nat.div_add_mod p W
 have h2:=Nat.mod_lt p hW
 have h3:p/W<H:=by rw[Nat.div_lt_iff_lt_mul hW,Nat.mul_comm];exact hp
 have h4:0<p/W↔W≤p:=by rw[Nat.div_pos_iff];exact⟨fun h=>h.2,fun h=>⟨hW,h⟩⟩
 have h5:p/W+1<H↔p+W<W*H:=by
  have:(p+W)/W=p/W+1:=Nat.add_div_right p hW
  rw[←this,Nat.div_lt_iff_lt_mul hW,Nat.mul_comm]
 have h6:=zuh hW p
 have h7:p % W+1<W→p+1<W*H:=by
  intro h
  have:W*(p/W)+W≤W*H:=by rw[←Nat.mul_succ];exact Nat.mul_le_mul_left _ h3
  omega
 unfold zl8 Adj
 simp only[List.mem_append]
 constructor
 ·rintro (((h|h)|h)|h)
  ·split at h
   ·rename_i g
    simp only[List.mem_singleton]at h
    have:=h4.1 g
    exact⟨by omega,.inl (by omega)⟩
   ·simp at h
  ·split at h
   ·rename_i g
    simp only[List.mem_singleton]at h
    have:0<p:=Nat.pos_of_ne_zero fun e=>by rw[e]at g;simp at g
    exact⟨by omega,.inr (.inl ⟨by omega,g⟩)⟩
   ·simp at h
  ·split at h
   ·rename_i g
    simp only[List.mem_singleton]at h
    rw[if_neg (by omega)]at h6
    have:=h7 g
    exact⟨by omega,.inr (.inr (.inl ⟨by omega,by rw[h,h6];omega⟩))⟩
   ·simp at h
  ·split at h
   ·rename_i g
    simp only[List.mem_singleton]at h
    have:=h5.1 g
    exact⟨by omega,.inr (.inr (.inr (by omega)))⟩
   ·simp at h
 ·rintro⟨hn,h|⟨h,h'⟩|⟨h,h'⟩|h⟩
  ·refine .inl (.inl (.inl ?_))
   rw[if_pos (h4.2 (by omega))];simp;omega
  ·refine .inl (.inl (.inr ?_))
   rw[if_pos h'];simp;omega
  ·refine .inl (.inr ?_)
   rw[if_pos]
   ·simp;omega
   ·rw[←h,h6]at h'
    split at h'
    ·omega
    ·omega
  ·refine .inr ?_
   rw[if_pos (h5.2 (by omega))];simp;omega
def kV (q:Int):Int:=if q=2 then 3 else 2
theorem zy4 (q:Int):2≤kV q∧kV q≤3:=by unfold kV;split<;>omega
theorem zn1 {l:List Int} {i:Nat} (v:Int) (p:Nat) (hi:i<l.length):(l.set i v).getD p default=if p=i then v else l.getD p default:=by
 by_cases h:p=i
 ·subst h;rw[if_pos rfl,zac _ _ (by simpa using hi)];simp
 ·rw[if_neg h]
  simp only[List.getD_eq_getElem?_getD,List.getElem?_set,if_neg (Ne.symm h)]
structure Flood (W : Nat) (pl : List Int) (s : List Nat) (far : List Int) : Prop where
 len:far.length=pl.length
 low:∀p,p<pl.length → -1≤far.getD p default
 src:∀p∈s,far.getD p default=0
 why:∀p,p<pl.length→0≤far.getD p default→(p∈s∧far.getD p default=0)∨∃n,n<pl.length∧Adj W p n∧pl.getD p default≠1∧0≤far.getD n default∧far.getD n default+kV (pl.getD p default)≤far.getD p default
 all:∀p n,p<pl.length→n<pl.length→Adj W p n→0≤far.getD p default→pl.getD n default≠1→0≤far.getD n default∧far.getD n default≤far.getD p default+kV (pl.getD n default)
theorem Flood.le {W:Nat} {pl:List Int} {s:List Nat} {f g:List Int} (hf:Flood W pl s f) (hg:Flood W pl s g):∀(N p:Nat),p<pl.length→0≤f.getD p default→f.getD p default≤N→0≤g.getD p default∧g.getD p default≤f.getD p default:=by
 intro N
 induction N using Nat.strongRecOn with
 | _ N ih =>
  intro p hp h0 hN
  rcases hf.why p hp h0 with ⟨h1,h2⟩|⟨n,hn,ha,hr,h3,h4⟩
  ·rw[hg.src p h1];omega
  ·have hk:=zy4 (pl.getD p default)
   obtain⟨k,hk2⟩:=Int.eq_ofNat_of_zero_le h3
   have:=ih k (by omega) n hn h3 (by omega)
   have:=hg.all n p hn hp ha.symm this.1 hr
   omega
theorem Flood.uniq {W:Nat} {pl:List Int} {s:List Nat} {f g:List Int} (hf:Flood W pl s f) (hg:Flood W pl s g):f=g:=by
 refine List.ext_getElem (hf.len.trans hg.len.symm) fun p h1 h2 => ?_
 rw[←zac f p h1,←zac g p h2]
 have hp:p<pl.length:=by rw[←hf.len];exact h1
 have l1:=hf.low p hp
 have l2:=hg.low p hp
 by_cases h:0≤f.getD p default
 ·obtain⟨k,hk⟩:=Int.eq_ofNat_of_zero_le h
  have a:=hf.le hg k p hp h (by omega)
  obtain⟨k',hk'⟩:=Int.eq_ofNat_of_zero_le a.1
  have b:=hg.le hf k' p hp a.1 (by omega)
  omega
 ·by_cases h':0≤g.getD p default
  ·obtain⟨k',hk'⟩:=Int.eq_ofNat_of_zero_le h'
   have b:=hg.le hf k' p hp h' (by omega)
   omega
  ·omega
def zil (g:Int→Nat) (l:List Int):Nat:=(l.map g).sum
theorem zgb (g:Int→Nat):∀(l:List Int) (i:Nat) (v:Int),i<l.length→zil g (l.set i v)+g (l.getD i default)=zil g l+g v
 | [],i,v,h=>by simp at h
 | a::r,0,v,_=>by simp[zil];omega
 | a::r,i+1,v,h=>by
  have:=zgb g r i v (by simpa using h)
  simp only[zil,List.set_cons_succ,List.map_cons,List.sum_cons,List.getD_cons_succ]at this ⊢
  omega
theorem zg7 (g:Int→Nat) (b:Nat) (hg:∀x,g x≤b):∀l:List Int,zil g l≤b*l.length
 | []=>by simp[zil]
 | a::r=>by
  have:=zg7 g b hg r
  have:=hg a
  simp only[zil,List.map_cons,List.sum_cons,List.length_cons,Nat.mul_add]at *
  omega
def zew (x:Int):Nat:=if 0≤x then 1 else 0
def z3u (x:Int):Nat:=if 0≤x then x.toNat else 5000
theorem zhc (x:Int):zew x≤1:=by unfold zew;split<;>omega
theorem zv7 (n p:Nat) (h:p<n):(List.replicate n (-1:Int)).getD p default = -1:=by rw[zac _ _ (by simpa using h)];simp
structure Itm where
 place:Int
 far:Int
 deriving DecidableEq, Inhabited
structure Dj (W : Nat) (pl : List Int) (s : List Nat) (far : List Int) (q : List Itm) (done : Nat → Nat → Prop) : Prop where
 len:far.length=pl.length
 low:∀p,p<pl.length → -1≤far.getD p default
 heap:zmr Itm.far q q.length
 itm:∀x∈q,∃p:Nat,x.place=(p:Int)∧p<pl.length∧0≤x.far∧x.far≤3*zil zew far∧(∀m,m<pl.length→far.getD m default≤x.far)∧((p∈s∧x.far=0)∨∃n,n<pl.length∧Adj W p n∧pl.getD p default≠1∧0≤far.getD n default∧x.far=far.getD n default+kV (pl.getD p default))
 src:∀p∈s,far.getD p default=0∨(far.getD p default<0∧∃x∈q,x.place=(p:Int)∧x.far=0)
 why:∀p,p<pl.length→0≤far.getD p default→(p∈s∧far.getD p default=0)∨∃n,n<pl.length∧Adj W p n∧pl.getD p default≠1∧0≤far.getD n default∧far.getD n default+kV (pl.getD p default)≤far.getD p default
 all:∀p n,p<pl.length→n<pl.length→Adj W p n→done p n→0≤far.getD p default→pl.getD n default≠1 →
  (0≤far.getD n default∧far.getD n default≤far.getD p default+kV (pl.getD n default))∨(far.getD n default<0∧∃x∈q,x.place=(n:Int)∧x.far≤far.getD p default+kV (pl.getD n default))
section
variable {W : Nat} {pl : List Int} {s : List Nat} {far : List Int} {q : List Itm} {done : Nat → Nat → Prop}
theorem Dj.flood (h:Dj W pl s far [] fun _ _=>True):Flood W pl s far:=by
 refine⟨h.len,h.low,fun p hp => ?_,h.why,fun p n hp hn ha h0 hr => ?_⟩
 ·rcases h.src p hp with h|⟨_,x,hx,_⟩
  ·exact h
  ·simp at hx
 ·rcases h.all p n hp hn ha trivial h0 hr with h|⟨_,x,hx,_⟩
  ·exact h
  ·simp at hx
theorem Dj.skip (h:Dj W pl s far q done) (hq:0<q.length) {p:Nat} (hp:(q.getD 0 default).place=(p:Int)) (h0:0≤far.getD p default):Dj W pl s far (zfp Itm.far q) done:=by
 have M:=zfj Itm.far q hq
 refine⟨h.len,h.low,zia _ _ hq h.heap,fun x hx=>h.itm x ((M x).2 (.inr hx)),fun p' hp' => ?_,h.why,fun p' n h1 h2 h3 h4 h5 h6 => ?_⟩
 ·rcases h.src p' hp' with h7|⟨h7,x,hx,h8,h9⟩
  ·exact .inl h7
  ·refine .inr ⟨h7,x,?_,h8,h9⟩
   rcases (M x).1 hx with e|e
   ·subst e;rw[hp]at h8;have:p=p':=by omega
    subst this;omega
   ·exact e
 ·rcases h.all p' n h1 h2 h3 h4 h5 h6 with h7|⟨h7,x,hx,h8,h9⟩
  ·exact .inl h7
  ·refine .inr ⟨h7,x,?_,h8,h9⟩
   rcases (M x).1 hx with e|e
   ·subst e;rw[hp]at h8;have:p=n:=by omega
    subst this;omega
   ·exact e
theorem Dj.close (hW:0<W) (h:Dj W pl s far q fun _ _=>True) (hq:0<q.length) {p:Nat} (hp:(q.getD 0 default).place=(p:Int)) (h0:far.getD p default<0) :
 p<pl.length∧Dj W pl s (far.set p (q.getD 0 default).far) (zfp Itm.far q) (fun a _=>a≠p):=by
 have M:=zfj Itm.far q hq
 have mem0:q.getD 0 default∈q:=(M _).2 (.inl rfl)
 obtain⟨p',e1,hpl,j0,jb,jm,jw⟩:=h.itm _ mem0
 obtain rfl:p'=p:=by omega
 have zh7:∀x∈q,(q.getD 0 default).far≤x.far:=fun x hx=>by
  obtain⟨k,hk,rfl⟩:=mem_getD.1 hx
  exact zos _ h.heap k hk
 have hp'l:p'<far.length:=by rw[h.len];exact hpl
 generalize (q.getD 0 default).far=d at *
 have G:=fun k=>zn1 d k hp'l
 have cnt:zil zew (far.set p' d)=zil zew far+1:=by
  have:=zgb zew far p' d hp'l
  simp only[zew,if_neg (show ¬0≤far.getD p' default by omega),if_pos j0]at this;simpa[zew]using this
 refine⟨hpl,by rw[List.length_set];exact h.len,fun k hk => ?_,zia _ _ hq h.heap,fun x hx => ?_,fun k hk => ?_,fun k hk hk0 => ?_,fun a n h1 h2 h3 h4 h5 h6 => ?_⟩
 ·rw[G];split
  ·omega
  ·exact h.low k hk
 ·have hx':=(M x).2 (.inr hx)
  obtain⟨k,e2,hk,l0,lb,lm,lw⟩:=h.itm x hx'
  refine⟨k,e2,hk,l0,by rw[cnt];omega,fun m hm => ?_,?_⟩
  ·rw[G];split
   ·exact zh7 x hx'
   ·exact lm m hm
  ·rcases lw with lw|⟨n,n1,n2,n3,n4,n5⟩
   ·exact .inl lw
   ·refine .inr ⟨n,n1,n2,n3,?_⟩
    rw[G,if_neg (by intro e;subst e;omega)];exact⟨n4,n5⟩
 ·rw[G]
  rcases h.src k hk with h7|⟨h7,x,hx,h8,h9⟩
  ·rw[if_neg (by intro e;subst e;omega)];exact .inl h7
  ·by_cases e:k=p'
   ·subst e
    rw[if_pos rfl]
    have:=zh7 x hx
    exact .inl (by omega)
   ·rw[if_neg e]
    refine .inr ⟨h7,x,?_,h8,h9⟩
    rcases (M x).1 hx with e3|e3
    ·subst e3;omega
    ·exact e3
 ·rw[G]at hk0 ⊢
  by_cases e:k=p'
  ·subst e
   rw[if_pos rfl]
   rcases jw with jw|⟨n,n1,n2,n3,n4,n5⟩
   ·exact .inl jw
   ·refine .inr ⟨n,n1,n2,n3,?_⟩
    rw[G,if_neg (by intro e;subst e;omega)];omega
  ·rw[if_neg e]at hk0 ⊢
   rcases h.why k hk hk0 with jw|⟨n,n1,n2,n3,n4,n5⟩
   ·exact .inl jw
   ·refine .inr ⟨n,n1,n2,n3,?_⟩
    rw[G,if_neg (by intro e;subst e;omega)];exact⟨n4,n5⟩
 ·rw[G,if_neg h4]at h5
  rw[G,G,if_neg h4]
  rcases h.all a n h1 h2 h3 trivial h5 h6 with h7|⟨h7,x,hx,h8,h9⟩
  ·rw[if_neg (by intro e;subst e;omega)];exact .inl h7
  ·by_cases e:n=p'
   ·subst e
    rw[if_pos rfl]
    have:=zh7 x hx
    exact .inl ⟨j0,by omega⟩
   ·rw[if_neg e]
    refine .inr ⟨h7,x,?_,h8,h9⟩
    rcases (M x).1 hx with e3|e3
    ·subst e3;omega
    ·exact e3
theorem Dj.look {p n:Nat} (h:Dj W pl s far q done) (hn:n<pl.length) (hp:p<pl.length) (ha:Adj W p n) (h0:0≤far.getD p default) (top:∀m,m<pl.length→far.getD m default≤far.getD p default) (hb:far.getD p default+3≤3*zil zew far) (done':Nat→Nat→Prop) (hd:∀a b,done' a b→done a b∨(a=p∧b=n))
 {q':List Itm} (hq':((pl.getD n default=1∨0≤far.getD n default)∧q'=q)∨(pl.getD n default≠1∧far.getD n default<0∧q'=zdp Itm.far q ⟨(n:Int),far.getD p default+kV (pl.getD n default)⟩)):Dj W pl s far q' done':=by
 have sub:∀x∈q,x∈q':=fun x hx=>by
  rcases hq' with ⟨_,rfl⟩|⟨_,_,rfl⟩
  ·exact hx
  ·exact(zdi _ _ _ _).2 (.inl hx)
 refine⟨h.len,h.low,?_,fun x hx => ?_,fun k hk => ?_,h.why,fun a b h1 h2 h3 h4 h5 h6 => ?_⟩
 ·rcases hq' with ⟨_,rfl⟩|⟨_,_,rfl⟩
  ·exact h.heap
  ·exact zi7 _ _ _ h.heap
 ·rcases hq' with ⟨_,rfl⟩|⟨g1,g2,rfl⟩
  ·exact h.itm x hx
  ·rcases (zdi _ _ _ _).1 hx with e|e
   ·exact h.itm x e
   ·subst e
    have hk:=zy4 (pl.getD n default)
    exact⟨n,rfl,hn,by simp only;omega,by simp only;omega,fun m hm=>by have:=top m hm;simp only;omega,.inr ⟨p,hp,ha.symm,g1,h0,rfl⟩⟩
 ·rcases h.src k hk with h7|⟨h7,x,hx,h8,h9⟩
  ·exact .inl h7
  ·exact .inr ⟨h7,x,sub x hx,h8,h9⟩
 ·rcases hd a b h4 with h4|⟨rfl,rfl⟩
  ·rcases h.all a b h1 h2 h3 h4 h5 h6 with h7|⟨h7,x,hx,h8,h9⟩
   ·exact .inl h7
   ·exact .inr ⟨h7,x,sub x hx,h8,h9⟩
  ·rcases hq' with ⟨g|g,rfl⟩|⟨g1,g2,rfl⟩
   ·exact absurd g h6
   ·have hk:=zy4 (pl.getD b default)
    have:=top b hn
    exact .inl ⟨g,by omega⟩
   ·exact .inr ⟨g2,_,(zdi _ _ _ _).2 (.inr rfl),rfl,Int.le_refl _⟩
theorem Dj.start (hs:∀p∈s,p<pl.length) (hh:zmr Itm.far q q.length) (h1:∀x∈q,∃p∈s,x.place=(p:Int)∧x.far=0) (h2:∀p∈s,∃x∈q,x.place=(p:Int)∧x.far=0):Dj W pl s (List.replicate pl.length (-1)) q fun _ _=>True:=by
 have G:=fun p hp=>zv7 pl.length p hp
 refine⟨by simp,fun p hp=>by rw[G p hp];omega,hh,fun x hx => ?_,fun p hp => .inr ⟨by rw[G p (hs p hp)];omega,h2 p hp⟩,fun p hp h0 => ?_,fun p n hp _ _ _ h0 _ => ?_⟩
 ·obtain⟨p,hp,e1,e2⟩:=h1 x hx
  exact⟨p,e1,hs p hp,by omega,by omega,fun m hm=>by rw[G m hm];omega,.inl ⟨hp,e2⟩⟩
 ·rw[G p hp]at h0;omega
 ·rw[G p hp]at h0;omega
end
structure Bf (W : Nat) (pl : List Int) (s : List Nat) (far : List Int) : Prop where
 len:far.length=pl.length
 low:∀p,p<pl.length → -1≤far.getD p default
 src:∀p∈s,far.getD p default=0
 why:∀p,p<pl.length→0≤far.getD p default→(p∈s∧far.getD p default=0)∨∃n,n<pl.length∧Adj W p n∧pl.getD p default≠1∧0≤far.getD n default∧far.getD n default+kV (pl.getD p default)≤far.getD p default
 top:∀p,p<pl.length→far.getD p default≤3*zil zew far
def ygj (pl far:List Int) (i n:Nat):Prop:=pl.getD i default=1∨far.getD n default<0∨(0≤far.getD i default∧far.getD i default≤far.getD n default+kV (pl.getD i default))
section
variable {W : Nat} {pl : List Int} {s : List Nat} {far : List Int}
theorem Bf.flood (h:Bf W pl s far) (hf:∀i n,i<pl.length→n<pl.length→Adj W i n→ygj pl far i n):Flood W pl s far:=by
 refine⟨h.len,h.low,h.src,h.why,fun p n hp hn ha h0 hr => ?_⟩
 rcases hf n p hn hp ha.symm with h1|h1|h1
 ·exact absurd h1 hr
 ·omega
 ·exact h1
theorem Bf.better (h:Bf W pl s far) (hl:pl.length≤1600) {i n:Nat} (hi:i<pl.length) (hn:n<pl.length) (ha:Adj W i n) (hne:i≠n) (hf:¬ygj pl far i n) :
 Bf W pl s (far.set i (far.getD n default+kV (pl.getD i default)))∧zil z3u (far.set i (far.getD n default+kV (pl.getD i default)))<zil z3u far:=by
 unfold ygj at hf
 rw[not_or,not_or]at hf
 obtain⟨f1,f2,f3⟩:=hf
 have hk:=zy4 (pl.getD i default)
 have hil:i<far.length:=by rw[h.len];exact hi
 have top:=h.top n hn
 have c1:=zg7 zew 1 zhc far
 rw[h.len]at c1
 obtain⟨d,hd⟩:∃d,d=far.getD n default+kV (pl.getD i default):=⟨_,rfl⟩
 rw[←hd]
 have G:=fun k=>zn1 d k hil
 have cnt:=zgb zew far i d hil
 have bg:=zgb z3u far i d hil
 have o1:zew d=1:=by unfold zew;rw[if_pos (by omega)]
 have b1:z3u d=d.toNat:=by unfold z3u;rw[if_pos (by omega)]
 rw[o1]at cnt
 rw[b1]at bg
 have o2:=zhc (far.getD i default)
 refine⟨⟨by rw[List.length_set];exact h.len,fun k hk2 => ?_,fun k hk2 => ?_,fun k hk2 hk0 => ?_,fun k hk2 => ?_⟩,?_⟩
 ·rw[G];split
  ·omega
  ·exact h.low k hk2
 ·rw[G,if_neg]
  ·exact h.src k hk2
  ·intro e;subst e
   have:=h.src _ hk2
   exact f3 ⟨by omega,by omega⟩
 ·rw[G]at hk0 ⊢
  by_cases e:k=i
  ·subst e
   rw[if_pos rfl]
   refine .inr ⟨n,hn,ha,f1,?_⟩
   rw[G,if_neg (Ne.symm hne)];omega
  ·rw[if_neg e]at hk0 ⊢
   rcases h.why k hk2 hk0 with jw|⟨m,n1,n2,n3,n4,n5⟩
   ·exact .inl jw
   ·refine .inr ⟨m,n1,n2,n3,?_⟩
    rw[G]
    split
    ·rename_i e2;subst e2;omega
    ·exact⟨n4,n5⟩
 ·rw[G];split
  ·by_cases hneg:0≤far.getD i default
   ·have:zew (far.getD i default)=1:=by unfold zew;rw[if_pos hneg]
    have:=h.top i hi
    omega
   ·have:zew (far.getD i default)=0:=by unfold zew;rw[if_neg hneg]
    omega
  ·have:=h.top k hk2;omega
 ·by_cases hneg:0≤far.getD i default
  ·have:z3u (far.getD i default)=(far.getD i default).toNat:=by unfold z3u;rw[if_pos hneg]
   omega
  ·have:z3u (far.getD i default)=5000:=by unfold z3u;rw[if_neg hneg]
   omega
end
structure Nod where
 c:Cel
 far:Int
 all:Int
 deriving DecidableEq, Inhabited
def zdv (W p:Nat):Cel:=⟨((p % W:Nat):Int),((p/W:Nat):Int)⟩
theorem zd1 {W p n:Nat} (h:zdv W p=zdv W n):p=n:=by
 unfold zdv at h
 simp only[Cel.mk.injEq]at h
 have h1:=Nat.div_add_mod p W
 have h2:=Nat.div_add_mod n W
 have e1:p % W=n % W:=by omega
 have e2:p/W=n/W:=by omega
 rw[←h1,←h2,e1,e2]
def ygb (W L:Nat) (hh:Nat→Int):Prop:=∀p n,p<L→n<L→Adj W p n→hh p≤hh n+2
structure As (W : Nat) (pl : List Int) (a : Nat) (hh : Nat → Int) (far : List Int) (q : List Nod) (done : Nat → Nat → Prop) : Prop where
 len:far.length=pl.length
 low:∀p,p<pl.length → -1≤far.getD p default
 heap:zmr Nod.all q q.length
 itm:∀x∈q,∃p:Nat,x.c=zdv W p∧p<pl.length∧0≤x.far∧x.far≤3*zil zew far∧x.all=x.far+hh p∧(∀m,m<pl.length→0≤far.getD m default→far.getD m default+hh m≤x.all)∧((p=a∧x.far=0)∨∃n,n<pl.length∧Adj W p n∧pl.getD p default≠1∧0≤far.getD n default∧x.far=far.getD n default+kV (pl.getD p default))
 src:far.getD a default=0∨(far.getD a default<0∧∃x∈q,x.c=zdv W a∧x.far=0)
 why:∀p,p<pl.length→0≤far.getD p default→(p=a∧far.getD p default=0)∨∃n,n<pl.length∧Adj W p n∧pl.getD p default≠1∧0≤far.getD n default∧far.getD p default=far.getD n default+kV (pl.getD p default)
 top:∀p,p<pl.length→far.getD p default≤3*zil zew far
 all:∀p n,p<pl.length→n<pl.length→Adj W p n→done p n→0≤far.getD p default→pl.getD n default≠1 →
  (0≤far.getD n default∧far.getD n default≤far.getD p default+kV (pl.getD n default))∨(far.getD n default<0∧∃x∈q,x.c=zdv W n∧x.far≤far.getD p default+kV (pl.getD n default))
section
variable {W : Nat} {pl : List Int} {a : Nat} {hh : Nat → Int} {far : List Int} {q : List Nod} {done : Nat → Nat → Prop}
theorem As.skip (h:As W pl a hh far q done) (hq:0<q.length) {p:Nat} (hp:(q.getD 0 default).c=zdv W p) (h0:0≤far.getD p default):As W pl a hh far (zfp Nod.all q) done:=by
 have M:=zfj Nod.all q hq
 refine⟨h.len,h.low,zia _ _ hq h.heap,fun x hx=>h.itm x ((M x).2 (.inr hx)),?_,h.why,h.top,fun p' n h1 h2 h3 h4 h5 h6 => ?_⟩
 ·rcases h.src with h7|⟨h7,x,hx,h8,h9⟩
  ·exact .inl h7
  ·refine .inr ⟨h7,x,?_,h8,h9⟩
   rcases (M x).1 hx with e|e
   ·subst e;rw[hp]at h8;have:=zd1 h8;subst this;omega
   ·exact e
 ·rcases h.all p' n h1 h2 h3 h4 h5 h6 with h7|⟨h7,x,hx,h8,h9⟩
  ·exact .inl h7
  ·refine .inr ⟨h7,x,?_,h8,h9⟩
   rcases (M x).1 hx with e|e
   ·subst e;rw[hp]at h8;have:=zd1 h8;subst this;omega
   ·exact e
theorem As.close (hW:0<W) (h:As W pl a hh far q fun _ _=>True) (hq:0<q.length) {p:Nat} (hp:(q.getD 0 default).c=zdv W p) (h0:far.getD p default<0) :
 p<pl.length∧As W pl a hh (far.set p (q.getD 0 default).far) (zfp Nod.all q) (fun x _=>x≠p):=by
 have M:=zfj Nod.all q hq
 have mem0:q.getD 0 default∈q:=(M _).2 (.inl rfl)
 obtain⟨p',e1,hpl,j0,jb,ja,jm,jw⟩:=h.itm _ mem0
 obtain rfl:p=p':=zd1 (hp.symm.trans e1)
 have zh7:∀x∈q,(q.getD 0 default).all≤x.all:=fun x hx=>by
  obtain⟨k,hk,rfl⟩:=mem_getD.1 hx
  exact zos _ h.heap k hk
 have hpL:p<far.length:=by rw[h.len];exact hpl
 generalize q.getD 0 default=x0 at *
 obtain⟨c0,d,al⟩:=x0
 simp only at *
 have G:=fun k=>zn1 d k hpL
 have cnt:zil zew (far.set p d)=zil zew far+1:=by
  have:=zgb zew far p d hpL
  simp only[zew,if_neg (show ¬0≤far.getD p default by omega),if_pos j0]at this;simpa[zew]using this
 refine⟨hpl,by rw[List.length_set];exact h.len,fun k hk => ?_,zia _ _ hq h.heap,fun x hx => ?_,?_,fun k hk hk0 => ?_,fun k hk => ?_,fun u n h1 h2 h3 h4 h5 h6 => ?_⟩
 ·rw[G];split
  ·omega
  ·exact h.low k hk
 ·have hx':=(M x).2 (.inr hx)
  obtain⟨k,e2,hk,l0,lb,la,lm,lw⟩:=h.itm x hx'
  refine⟨k,e2,hk,l0,by rw[cnt];omega,la,fun m hm hm0 => ?_,?_⟩
  ·rw[G]at hm0 ⊢;split
   ·rename_i e;subst e;have:=zh7 x hx';omega
   ·rename_i e;rw[if_neg e]at hm0;exact lm m hm hm0
  ·rcases lw with lw|⟨n,n1,n2,n3,n4,n5⟩
   ·exact .inl lw
   ·refine .inr ⟨n,n1,n2,n3,?_⟩
    rw[G,if_neg (by intro e;subst e;omega)];exact⟨n4,n5⟩
 ·rw[G]
  rcases h.src with h7|⟨h7,x,hx,h8,h9⟩
  ·rw[if_neg (by intro e;subst e;omega)];exact .inl h7
  ·by_cases e:a=p
   ·subst e
    rw[if_pos rfl]
    have:=zh7 x hx
    obtain⟨k,e2,_,_,_,la,_,_⟩:=h.itm x hx
    have:=zd1 (e2.symm.trans h8)
    subst this
    exact .inl (by omega)
   ·rw[if_neg e]
    refine .inr ⟨h7,x,?_,h8,h9⟩
    rcases (M x).1 hx with e3|e3
    ·subst e3;exact absurd (zd1 (h8.symm.trans hp)) e
    ·exact e3
 ·rw[G]at hk0 ⊢
  by_cases e:k=p
  ·subst e
   rw[if_pos rfl]
   rcases jw with jw|⟨n,n1,n2,n3,n4,n5⟩
   ·exact .inl jw
   ·refine .inr ⟨n,n1,n2,n3,?_⟩
    rw[G,if_neg (by intro e;subst e;omega)];omega
  ·rw[if_neg e]at hk0 ⊢
   rcases h.why k hk hk0 with jw|⟨n,n1,n2,n3,n4,n5⟩
   ·exact .inl jw
   ·refine .inr ⟨n,n1,n2,n3,?_⟩
    rw[G,if_neg (by intro e;subst e;omega)];exact⟨n4,n5⟩
 ·rw[G,cnt];split
  ·omega
  ·have:=h.top k hk;omega
 ·rw[G,if_neg h4]at h5
  rw[G,G,if_neg h4]
  rcases h.all u n h1 h2 h3 trivial h5 h6 with h7|⟨h7,x,hx,h8,h9⟩
  ·rw[if_neg (by intro e;subst e;omega)];exact .inl h7
  ·by_cases e:n=p
   ·subst e
    rw[if_pos rfl]
    have:=zh7 x hx
    obtain⟨k,e2,_,_,_,la,_,_⟩:=h.itm x hx
    have:=zd1 (e2.symm.trans h8)
    subst this
    exact .inl ⟨j0,by omega⟩
   ·rw[if_neg e]
    refine .inr ⟨h7,x,?_,h8,h9⟩
    rcases (M x).1 hx with e3|e3
    ·subst e3;exact absurd (zd1 (h8.symm.trans hp)) e
    ·exact e3
theorem As.look (hc:ygb W pl.length hh) {p n:Nat} (h:As W pl a hh far q done) (hn:n<pl.length) (hp:p<pl.length) (ha:Adj W p n) (h0:0≤far.getD p default) (top:∀m,m<pl.length→0≤far.getD m default→far.getD m default+hh m≤far.getD p default+hh p) (hb:far.getD p default+3≤3*zil zew far) (done':Nat→Nat→Prop) (hd:∀x y,done' x y→done x y∨(x=p∧y=n))
 {q':List Nod} (hq':((pl.getD n default=1∨0≤far.getD n default)∧q'=q)∨(pl.getD n default≠1∧far.getD n default<0∧q'=zdp Nod.all q ⟨zdv W n,far.getD p default+kV (pl.getD n default),far.getD p default+kV (pl.getD n default)+hh n⟩)):As W pl a hh far q' done':=by
 have hcn:=hc p n hp hn ha
 have sub:∀x∈q,x∈q':=fun x hx=>by
  rcases hq' with ⟨_,rfl⟩|⟨_,_,rfl⟩
  ·exact hx
  ·exact(zdi _ _ _ _).2 (.inl hx)
 refine⟨h.len,h.low,?_,fun x hx => ?_,?_,h.why,h.top,fun u b h1 h2 h3 h4 h5 h6 => ?_⟩
 ·rcases hq' with ⟨_,rfl⟩|⟨_,_,rfl⟩
  ·exact h.heap
  ·exact zi7 _ _ _ h.heap
 ·rcases hq' with ⟨_,rfl⟩|⟨g1,g2,rfl⟩
  ·exact h.itm x hx
  ·rcases (zdi _ _ _ _).1 hx with e|e
   ·exact h.itm x e
   ·subst e
    have hk:=zy4 (pl.getD n default)
    exact⟨n,rfl,hn,by simp only;omega,by simp only;omega,rfl,fun m hm hm0=>by have:=top m hm hm0;simp only;omega,.inr ⟨p,hp,ha.symm,g1,h0,rfl⟩⟩
 ·rcases h.src with h7|⟨h7,x,hx,h8,h9⟩
  ·exact .inl h7
  ·exact .inr ⟨h7,x,sub x hx,h8,h9⟩
 ·rcases hd u b h4 with h4|⟨rfl,rfl⟩
  ·rcases h.all u b h1 h2 h3 h4 h5 h6 with h7|⟨h7,x,hx,h8,h9⟩
   ·exact .inl h7
   ·exact .inr ⟨h7,x,sub x hx,h8,h9⟩
  ·rcases hq' with ⟨g|g,rfl⟩|⟨g1,g2,rfl⟩
   ·exact absurd g h6
   ·have hk:=zy4 (pl.getD b default)
    have:=top b hn g
    have:=hc u b hp hn ha
    exact .inl ⟨g,by omega⟩
   ·exact .inr ⟨g2,_,(zdi _ _ _ _).2 (.inr rfl),rfl,Int.le_refl _⟩
theorem As.start (ha:a<pl.length):As W pl a hh (List.replicate pl.length (-1)) (zdp Nod.all [] ⟨zdv W a,0,0+hh a⟩) fun _ _=>True:=by
 have G:=fun p hp=>zv7 pl.length p hp
 refine⟨by simp,fun p hp=>by rw[G p hp];omega,zi7 _ _ _ (fun k h1 h2=>absurd h2 (Nat.not_lt_zero _)),fun x hx => ?_,.inr ⟨by rw[G a ha];omega,_,(zdi _ _ _ _).2 (.inr rfl),rfl,rfl⟩,fun p hp h0 => ?_,fun p hp=>by rw[G p hp];omega,fun p n hp _ _ _ h0 _ => ?_⟩
 ·rcases (zdi _ _ _ _).1 hx with e|e
  ·simp at e
  ·subst e
   exact⟨a,rfl,ha,Int.le_refl _,by simp only;omega,rfl,fun m hm h0=>by rw[G m hm]at h0;omega,.inl ⟨rfl,rfl⟩⟩
 ·rw[G p hp]at h0;omega
 ·rw[G p hp]at h0;omega
variable {F : List Int}
theorem As.up (h:As W pl a hh far q done) (hF:Flood W pl [a] F):∀(N p:Nat),p<pl.length→0≤far.getD p default→far.getD p default≤N→0≤F.getD p default∧F.getD p default≤far.getD p default:=by
 intro N
 induction N using Nat.strongRecOn with
 | _ N ih =>
  intro p hp h0 hN
  rcases h.why p hp h0 with ⟨h1,h2⟩|⟨n,hn,ha,hr,h3,h4⟩
  ·subst h1;rw[hF.src p (by simp)];omega
  ·have hk:=zy4 (pl.getD p default)
   obtain⟨k,hk2⟩:=Int.eq_ofNat_of_zero_le h3
   have:=ih k (by omega) n hn h3 (by omega)
   have:=hF.all n p hn hp ha.symm this.1 hr
   omega
theorem As.down (hc:ygb W pl.length hh) (h:As W pl a hh far q fun _ _=>True) (ha:a<pl.length) (hF:Flood W pl [a] F):∀(N p:Nat),p<pl.length→0≤F.getD p default→F.getD p default≤N →
 (0≤far.getD p default∧far.getD p default≤F.getD p default)∨∃x∈q,x.all≤F.getD p default+hh p:=by
 intro N
 induction N using Nat.strongRecOn with
 | _ N ih =>
  intro p hp h0 hN
  have itm:∀x∈q,x.c=zdv W p→x.all=x.far+hh p:=fun x hx e=>by
   obtain⟨k,e2,_,_,_,la,_,_⟩:=h.itm x hx
   have:=zd1 (e2.symm.trans e)
   subst this;exact la
  rcases hF.why p hp h0 with ⟨h1,h2⟩|⟨n,hn,hadj,hr,h3,h4⟩
  ·obtain rfl:p=a:=by simpa using h1
   rcases h.src with h7|⟨_,x,hx,h8,h9⟩
   ·exact .inl (by omega)
   ·exact .inr ⟨x,hx,by rw[itm x hx h8];omega⟩
  ·have hk:=zy4 (pl.getD p default)
   obtain⟨k,hk2⟩:=Int.eq_ofNat_of_zero_le h3
   rcases ih k (by omega) n hn h3 (by omega)with ⟨g1,g2⟩|⟨x,hx,hxa⟩
   ·rcases h.all n p hn hp hadj.symm trivial g1 hr with g3|⟨_,x,hx,e,g4⟩
    ·exact .inl (by omega)
    ·exact .inr ⟨x,hx,by rw[itm x hx e];omega⟩
   ·have:=hc n p hn hp hadj.symm
    exact .inr ⟨x,hx,by omega⟩
theorem As.same (hc:ygb W pl.length hh) (h:As W pl a hh far q fun _ _=>True) (ha:a<pl.length) (hF:Flood W pl [a] F) {p:Nat} (hp:p<pl.length) (h0:0≤far.getD p default):far.getD p default=F.getD p default:=by
 obtain⟨N,hN⟩:=Int.eq_ofNat_of_zero_le h0
 have h1:=h.up hF N p hp h0 (by omega)
 obtain⟨M,hM⟩:=Int.eq_ofNat_of_zero_le h1.1
 rcases h.down hc ha hF M p hp h1.1 (by omega)with h2|⟨x,hx,hxa⟩
 ·omega
 ·obtain⟨k,_,_,_,_,_,lm,_⟩:=h.itm x hx
  have:=lm p hp h0
  omega
theorem As.known (hc:ygb W pl.length hh) (h:As W pl a hh far q fun _ _=>True) (ha:a<pl.length) (hF:Flood W pl [a] F) {p:Nat} (hp:p<pl.length) (h0:0≤F.getD p default) (hout:∀x∈q,¬x.all≤F.getD p default+hh p):far.getD p default=F.getD p default:=by
 obtain⟨M,hM⟩:=Int.eq_ofNat_of_zero_le h0
 rcases h.down hc ha hF M p hp h0 (by omega)with h2|⟨x,hx,hxa⟩
 ·exact h.same hc ha hF hp h2.1
 ·exact absurd hxa (hout x hx)
end
theorem zth {W:Nat} {pl:List Int} {s:List Nat} (hW:0<W) (hl:pl.length≤1600):∀(N:Nat) (far:List Int),zil z3u far≤N→Bf W pl s far→∃F,Flood W pl s F:=by
 intro N
 induction N using Nat.strongRecOn with
 | _ N ih =>
  intro far hN hB
  by_cases hf:∀i n,i<pl.length→n<pl.length→Adj W i n→ygj pl far i n
  ·exact⟨far,hB.flood hf⟩
  ·simp only[Classical.not_forall]at hf
   obtain⟨i,n,hi,hn,ha,hnf⟩:=hf
   obtain⟨b1,b2⟩:=hB.better hl hi hn ha (Adj.ne hW ha) hnf
   exact ih _ (by omega) _ (Nat.le_refl _) b1
theorem z6k {W:Nat} {pl:List Int} {s:List Nat} (hW:0<W) (hl:pl.length≤1600) (hs:∀p∈s,p<pl.length):∃F,Flood W pl s F:=by
 have G:∀p,p<pl.length→((List.range pl.length).map fun p=>if p∈s then (0:Int)else -1).getD p default=if p∈s then 0 else -1:=fun p hp=>by rw[zac _ _ (by simpa using hp)];simp
 refine zth hW hl _ ((List.range pl.length).map fun p=>if p∈s then (0:Int)else -1) (Nat.le_refl _) ⟨by simp,fun p hp => ?_,fun p hp => ?_,fun p hp h0 => ?_,fun p hp => ?_⟩
 ·rw[G p hp];split<;>omega
 ·rw[G p (hs p hp),if_pos hp]
 ·rw[G p hp]at h0 ⊢
  split at h0
  ·rename_i h;rw[if_pos h];exact .inl ⟨h,rfl⟩
  ·omega
 ·rw[G p hp];split<;>omega
end Go.Proofs.YtmjbgbmegbkmhaaGreat
namespace Go.Proofs.YtmjbgbmegbkmhaaGreat
set_option linter.all false
open Go.RowKit
set_option maxRecDepth 100000
theorem zgi {α : Type} (p : α → Bool) (l:List α):decide (0≤zh9 p l)=l.any p:=by
 unfold zh9
 cases h:l.findIdx? p with
 | none =>
  have:=List.findIdx?_eq_none_iff.1 h
  simp only[show ¬(0:Int) ≤ -1 by omega,decide_false]
  symm;rw[List.any_eq_false];intro x hx;simp[this x hx]
 | some i =>
  obtain⟨hi,h1,_⟩:=List.findIdx?_eq_some_iff_getElem.1 h
  simp only[Int.natCast_nonneg,decide_true]
  symm;rw[List.any_eq_true];exact⟨_,List.getElem_mem hi,h1⟩
theorem ye9 (F:FuncId) (a b:List AV) (l:List Int) (p:Int→Bool) (hl:l.length≤9223372036854775807) (hp:∀n∈l,Spec Tryz.prog F (a ++ [I .i64 n]++b) [] (B (p n)) []) (ha:∀h,cvL [] h a=a) (hb:∀h,cvL [] h b=b) :
 Spec Tryz.prog 142 [.c (.sl 1 (l.map zad)),.clo (.func F) a b] [] (I .i64 (zh9 p l)) []:=by
 refine spB Tryz.func142 19 [.tmp 4] Tryz.results142 ?_
 simp(etaStruct := .none)only[push_cast,zab,seval]
 refine zaw (fun k:Nat=>⟨[(8,I .i64 k),(7,I .i64 l.length),(0,.c (.sl 1 (l.map zad))),(1,.clo (.func F) a b)],[],0⟩) (fun k=>k≤l.length∧∀j (hj:j<l.length),j<k→p l[j]=false) (fun k=>l.length-k) 0 ⟨Nat.zero_le _,fun j _ h=>by omega⟩ (To.mk [] rfl rfl List.nodup_nil trivial ?_) ?_
 ·simp(etaStruct := .none)only[push_cast,zab,seval,ha,hb]
 ·rintro k ⟨hk,hn⟩
  simp(etaStruct := .none)only[push_cast,zab,seval]
  refine zax (fun h => ?_) (fun h => ?_)
  ·have hlt:k<l.length:=by simpa using h
   simp(etaStruct := .none)only[push_cast,zab,seval,zce _ _ _ hlt,zad]
   repeat with_reducible refine obA ?_
   refine zdl (hp _ (List.getElem_mem hlt)) (by simp only[zdb,ha,hb,cvL,cv];exact WkL.refl _) ?_
   simp(etaStruct := .none)only[push_cast,zab,seval]
   refine zax (fun h => ?_) (fun h => ?_)
   ·simp(etaStruct := .none)only[push_cast,zab,seval]
    exact zb0 rfl trivial (Wk.of (by rw[zej p l k hlt h hn];rfl))
   ·simp(etaStruct := .none)only[push_cast,zab,seval]
    refine⟨k+1,⟨by omega,fun j hj hjk => ?_⟩,by omega,To.mk [] rfl rfl List.nodup_nil trivial ?_⟩
    ·by_cases e:j=k
     ·subst e;exact h
     ·exact hn j hj (by omega)
    ·simp(etaStruct := .none)only[push_cast,zab,seval,ha,hb]
     simp(disch:=omega)only[zak,zbb,tdv,tmd]
  ·have hge:k=l.length:=by simp at h;omega
   subst hge
   simp(etaStruct := .none)only[push_cast,zab,seval]
   exact zb0 rfl trivial (Wk.of (by rw[zdh p l (fun j hj=>hn j hj hj)];rfl))
theorem ybf (F:FuncId) (a b:List AV) (l:List Int) (p:Int→Bool) (hl:l.length≤9223372036854775807) (hp:∀n∈l,Spec Tryz.prog F (a ++ [I .i64 n]++b) [] (B (p n)) []) (ha:∀h,cvL [] h a=a) (hb:∀h,cvL [] h b=b) :
 Spec Tryz.prog 101 [.c (.sl 1 (l.map zad)),.clo (.func F) a b] [] (B (l.any p)) []:=by
 refine spB Tryz.func101 9 [.tmp 4] Tryz.results101 ?_
 simp(etaStruct := .none)only[push_cast,zab,seval]
 refine zdl (ye9 F a b l p hl hp ha hb) (by simp only[ha,hb,cvL,cv];exact WkL.refl _) ?_
 simp(etaStruct := .none)only[push_cast,zab,seval]
 exact zb0 rfl trivial (Wk.of (by rw[zgi];rfl))
def zai (n a b:Int):Bool:=decide (a≤n)&&decide (n≤b)
theorem within_iff {n a b:Int} : zai n a b=true↔a≤n∧n≤b:=by unfold zai;simp
theorem within_f {n a b:Int} : zai n a b=false↔¬(a≤n∧n≤b):=by unfold zai;simp
def zf7 (f:Fld):Bool := !zai f.w 1 40 || !zai f.h 1 40
def zea (f:Fld):Bool := !decide ((f.p.length:Int)=f.w*f.h)||f.p.any (fun p=>decide (p<0)||decide (4≤p))
def zbk (f:Fld):Int:=if zf7 f then 1 else if zea f then 4 else 0
theorem zbc {f:Fld} (h:zbk f=0):(1≤f.w∧f.w≤40)∧(1≤f.h∧f.h≤40)∧(f.p.length:Int)=f.w*f.h∧∀p∈f.p,0≤p∧p<4:=by
 unfold zbk at h
 split at h
 ·simp at h
 ·rename_i h1
  split at h
  ·simp at h
  ·rename_i h2
   simp only[zf7,Bool.or_eq_true,Bool.not_eq_true',not_or,Bool.not_eq_false,within_iff]at h1
   simp only[zea,Bool.or_eq_true,Bool.not_eq_true',decide_eq_false_iff_not,not_or,Decidable.not_not,List.any_eq_true,not_exists,not_and,decide_eq_true_eq]at h2
   exact⟨h1.1,h1.2,h2.1,fun p hp=>by have:=h2.2 p hp;omega⟩
theorem z7z (n:Int):Spec Tryz.prog 100 [I .i64 n] [] (B (zai n 1 40)) []:=by
 refine spB Tryz.func100 9 [.tmp 2] Tryz.results100 ?_
 try refine xst ?_
 exact zb0 rfl trivial (Wk.of (congrArg B (by unfold zai;first|rfl|simp)))
theorem yfl (n:Int):Spec Tryz.prog 102 ([] ++ [I .i64 n] ++ []) [] (B (decide (n<0)||decide (4≤n))) []:=by
 refine spB Tryz.func102 9 [.tmp 2] Tryz.results102 ?_
 try refine xst ?_
 exact zb0 rfl trivial (Wk.refl _)
theorem zwe (f:Fld) (hl:f.p.length≤9223372036854775807):Spec Tryz.prog 57 [zy6 f] [] (I .i64 (zbk f)) []:=by
 refine spB Tryz.func57 27 [.tmp 2] Tryz.results57 ?_
 try refine xst ?_
 refine zdl (z7z f.w) (WkL.refl _) ?_
 try refine xst ?_
 refine zv8 (fun hc=>z7z f.h) (WkL.refl _) (by intro hc;(try simp(etaStruct := .none)only[push_cast,zab,seval]);(try simp_all)) ?_
 try refine xst ?_
 refine zax (fun h1 => ?_) (fun h1 => ?_)
 ·try refine xst ?_
  (first|(refine zar rfl (Wk.of ?_);(try simp(etaStruct := .none)only[push_cast,zab,seval]);first|done|(simp[zbk,zf7,zea, *];done)|(simp_all[zbk,zf7,zea];done))|(refine zar rfl ?_;(try simp(etaStruct := .none)only[push_cast,zab,seval]);(try simp[zbk,zf7,zea, *]);(try exact wkc)))
 ·have hw:zai f.w 1 40=true∧zai f.h 1 40=true:=by simpa using h1
  obtain⟨h3,h4⟩:=hw
  rw[within_iff]at h3 h4
  have hm1:0≤f.w*f.h:=Int.mul_nonneg (by omega) (by omega)
  have hm2:f.w*f.h≤40*40:=Int.mul_le_mul h3.2 h4.2 (by omega) (by omega)
  try refine xst ?_
  refine zv8 (fun hc=>ybf _ [] [] f.p (fun p=>decide (p<0)||decide (4≤p)) hl (fun n _=>yfl n) (fun _=>rfl) (fun _=>rfl)) (WkL.refl _) (by intro hc;(try simp(etaStruct := .none)only[push_cast,zab,seval]);(try simp_all)) ?_
  try refine xst ?_
  refine zax (fun h2 => ?_) (fun h2 => ?_)
  ·try refine xst ?_
   (first|(refine zar rfl (Wk.of ?_);(try simp(etaStruct := .none)only[push_cast,zab,seval]);first|done|(simp[zbk,zf7,zea, *];done)|(simp_all[zbk,zf7,zea];done))|(refine zar rfl ?_;(try simp(etaStruct := .none)only[push_cast,zab,seval]);(try simp[zbk,zf7,zea, *]);(try exact wkc)))
  ·try refine xst ?_
   (first|(refine zar rfl (Wk.of ?_);(try simp(etaStruct := .none)only[push_cast,zab,seval]);first|done|(simp[zbk,zf7,zea, *];done)|(simp_all[zbk,zf7,zea];done))|(refine zar rfl ?_;(try simp(etaStruct := .none)only[push_cast,zab,seval]);(try simp[zbk,zf7,zea, *]);(try exact wkc)))
def inF (f:Fld) (c:Cel):Bool:=zai c.x 0 (f.w-1)&&zai c.y 0 (f.h-1)
theorem inF_iff {f:Fld} {c:Cel} : inF f c=true↔(0≤c.x∧c.x<f.w)∧(0≤c.y∧c.y<f.h):=by
 unfold inF;rw[Bool.and_eq_true,within_iff,within_iff];omega
theorem inF_f {f:Fld} {c:Cel} : inF f c=false↔¬((0≤c.x∧c.x<f.w)∧(0≤c.y∧c.y<f.h)):=by
 rw[←inF_iff,Bool.not_eq_true]
def zah (f:Fld) (c:Cel):Int:=f.p.getD (c.y*f.w+c.x).toNat default
theorem za5 {f:Fld} {c:Cel} (h:zbk f=0) (hc:inF f c=true):0≤c.y*f.w∧c.y*f.w≤1600∧0≤c.y*f.w+c.x∧c.y*f.w+c.x<f.p.length∧f.p.length≤1600:=by
 obtain⟨h1,h2,h3,_⟩:=zbc h
 obtain⟨h4,h5⟩:=inF_iff.1 hc
 have a1:0≤c.y*f.w:=Int.mul_nonneg (by omega) (by omega)
 have a2:c.y*f.w≤(f.h-1)*f.w:=Int.mul_le_mul_of_nonneg_right (by omega) (by omega)
 have a3:(f.h-1)*f.w=f.w*f.h-f.w:=by rw[Int.sub_mul,Int.mul_comm f.h,Int.one_mul]
 have a4:f.w*f.h≤40*40:=Int.mul_le_mul h1.2 h2.2 (by omega) (by omega)
 omega
def atV (f:Fld) (c:Cel):Int × Int:=if zbk f≠0 then (0,zbk f)else if inF f c then (zah f c,0)else (0,7)
theorem zyv (f:Fld) (c:Cel) (hl:f.p.length≤9223372036854775807):Spec Tryz.prog 129 [zy6 f,zgw c] [] (.tup [I .i64 (atV f c).1,I .i64 (atV f c).2]) []:=by
 refine spB Tryz.func129 46 [.tmp 4,.tmp 5] Tryz.results129 ?_
 try refine xst ?_
 refine caP (zwe f hl) ?_
 try refine xst ?_
 refine cI (fun h1 => ?_) fun h1 => ?_
 ·try refine xst ?_
  (first|(refine zar rfl (Wk.of ?_);(try simp(etaStruct := .none)only[push_cast,zab,seval]);first|done|(simp[atV,zah, *];done)|(simp_all[atV,zah];done))|(refine zar rfl ?_;(try simp(etaStruct := .none)only[push_cast,zab,seval]);(try simp[atV,zah, *]);(try exact wkc)))
 ·obtain⟨e1,e2,e3,e4⟩:=zbc h1
  try refine xst ?_
  refine cI (fun h2 => ?_) fun h2 => ?_
  ·have hc:inF f c=false:=inF_f.2 (by omega)
   try refine xst ?_
   (first|(refine zar rfl (Wk.of ?_);(try simp(etaStruct := .none)only[push_cast,zab,seval]);first|done|(simp[atV,zah, *];done)|(simp_all[atV,zah];done))|(refine zar rfl ?_;(try simp(etaStruct := .none)only[push_cast,zab,seval]);(try simp[atV,zah, *]);(try exact wkc)))
  ·have hc:inF f c=true:=inF_iff.2 (by omega)
   obtain⟨i1,i2,i3,i4,i5⟩:=za5 h1 hc
   try refine xz2 (gd (show (c.y*f.w+c.x).toNat<f.p.length by omega)) zaq ?_
   (first|(refine zar rfl (Wk.of ?_);(try simp(etaStruct := .none)only[push_cast,zab,seval]);first|done|(simp[atV,zah, *];done)|(simp_all[atV,zah];done))|(refine zar rfl ?_;(try simp(etaStruct := .none)only[push_cast,zab,seval]);(try simp[atV,zah, *]);(try exact wkc)))
end Go.Proofs.YtmjbgbmegbkmhaaGreat
namespace Go.Proofs.YtmjbgbmegbkmhaaGreat
set_option linter.all false
open Go.RowKit
set_option maxRecDepth 100000
set_option maxHeartbeats 400000
def zev (q:Int):Int × Int:=if q=0∨q=3 then (2,0)else if q=2 then (3,0)else if q=1 then (0,9)else (0,1)
theorem yfr (q:Int):Spec Tryz.prog 181 [I .i64 q] [] (.tup [I .i64 (zev q).1,I .i64 (zev q).2]) []:=by
 refine spB Tryz.func181 12 [.tmp 2,.tmp 3] Tryz.results181 ?_
 try refine xst ?_
 refine cI (fun h1 => ?_) fun h1 => ?_
 ·try refine xst ?_
  refine cI (fun h2 => ?_) fun h2 => ?_
  ·try refine xst ?_
   (first|(refine zar rfl (Wk.of ?_);(try simp(etaStruct := .none)only[push_cast,zab,seval]);first|done|(simp[zev, *];done)|(simp_all[zev];done))|(refine zar rfl ?_;(try simp(etaStruct := .none)only[push_cast,zab,seval]);(try simp[zev, *]);(try exact wkc)))
  ·exact absurd h1 h2
 ·try refine xst ?_
  refine cI (fun h3 => ?_) fun h3 => ?_
  ·try refine xst ?_
   (first|(refine zar rfl (Wk.of ?_);(try simp(etaStruct := .none)only[push_cast,zab,seval]);first|done|(simp[zev, *];done)|(simp_all[zev];done))|(refine zar rfl ?_;(try simp(etaStruct := .none)only[push_cast,zab,seval]);(try simp[zev, *]);(try exact wkc)))
  ·try refine xst ?_
   refine cI (fun h4 => ?_) fun h4 => ?_
   ·try refine xst ?_
    (first|(refine zar rfl (Wk.of ?_);(try simp(etaStruct := .none)only[push_cast,zab,seval]);first|done|(simp[zev, *];done)|(simp_all[zev];done))|(refine zar rfl ?_;(try simp(etaStruct := .none)only[push_cast,zab,seval]);(try simp[zev, *]);(try exact wkc)))
   ·try refine xst ?_
    refine cI (fun h5 => ?_) fun h5 => ?_
    ·try refine xst ?_
     (first|(refine zar rfl (Wk.of ?_);(try simp(etaStruct := .none)only[push_cast,zab,seval]);first|done|(simp[zev, *];done)|(simp_all[zev];done))|(refine zar rfl ?_;(try simp(etaStruct := .none)only[push_cast,zab,seval]);(try simp[zev, *]);(try exact wkc)))
    ·try refine xst ?_
     (first|(refine zar rfl (Wk.of ?_);(try simp(etaStruct := .none)only[push_cast,zab,seval]);first|done|(simp[zev, *];done)|(simp_all[zev];done))|(refine zar rfl ?_;(try simp(etaStruct := .none)only[push_cast,zab,seval]);(try simp[zev, *]);(try exact wkc)))
def zal (f:Fld) (c:Cel):Nat:=(c.y*f.w+c.x).toNat
def ygf (f:Fld):List Cel→Int
 | []=>0
 | c::r=>if inF f c then (if zah f c=1 then 9 else ygf f r)else 7
def zrf (f:Fld) (l:List Cel):Int:=if zbk f≠0 then zbk f else if 100<l.length then 2 else ygf f l
def zas (f:Fld) (l:List Cel) (R:List Int):Prop:=(zrf f l=0→∀far,Flood f.w.toNat f.p (l.map (zal f)) far→R=far)∧(zrf f l≠0→R = [])∧R.length≤f.p.length
theorem zwc (f:Fld) (l:List Cel):∃R,zas f l R:=by
 by_cases h:zrf f l=0∧∃far,Flood f.w.toNat f.p (l.map (zal f)) far
 ·obtain⟨h1,far,hf⟩:=h
  exact⟨far,fun _ g hg=>hf.uniq hg,fun h=>absurd h1 h,by rw[hf.len];exact Nat.le_refl _⟩
 ·exact⟨[],fun h0 far hf=>absurd ⟨h0,far,hf⟩ h,fun _=>rfl,Nat.zero_le _⟩
theorem z6y {q:Int} (h:0≤q∧q<4):(q=1∧zev q=(0,9))∨(q≠1∧zev q=(kV q,0)):=by
 have:q=0∨q=1∨q=2∨q=3:=by omega
 rcases this with rfl|rfl|rfl|rfl
 ·exact .inr ⟨by decide,rfl⟩
 ·exact .inl ⟨rfl,rfl⟩
 ·exact .inr ⟨by decide,rfl⟩
 ·exact .inr ⟨by decide,rfl⟩
def zaf (c:Cel):List Cel := [⟨c.x,c.y-1⟩,⟨c.x-1,c.y⟩,⟨c.x+1,c.y⟩,⟨c.x,c.y+1⟩]
def zeb (f:Fld) (c:Cel):List Cel:=(zaf c).filter (inF f)
theorem zno (f:Fld) {W H i:Nat} (hw:f.w=(W:Int)) (hh:f.h=(H:Int)) (hW:0<W) (hi:i<W*H):(zeb f ⟨((i % W:Nat):Int),((i/W:Nat):Int)⟩).map (zal f)=zl8 W H i∧∀n∈zeb f ⟨((i % W:Nat):Int),((i/W:Nat):Int)⟩,inF f n=true:=by
 refine⟨?_,fun n hn=>(List.mem_filter.1 hn).2⟩
 have h1:=Nat.div_add_mod i W
 have h2:=Nat.mod_lt i hW
 have h3:i/W<H:=by rw[Nat.div_lt_iff_lt_mul hW,Nat.mul_comm];exact hi
 unfold zeb zl8 zaf
 generalize i % W=x at *
 generalize i/W=y at *
 have a1:inF f ⟨(x:Int),(y:Int)-1⟩=decide (0<y):=by
  rw[Bool.eq_iff_iff,inF_iff,decide_eq_true_eq,hw,hh];simp only;omega
 have a2:inF f ⟨(x:Int)-1,(y:Int)⟩=decide (0<x):=by
  rw[Bool.eq_iff_iff,inF_iff,decide_eq_true_eq,hw,hh];simp only;omega
 have a3:inF f ⟨(x:Int)+1,(y:Int)⟩=decide (x+1<W):=by
  rw[Bool.eq_iff_iff,inF_iff,decide_eq_true_eq,hw,hh];simp only;omega
 have a4:inF f ⟨(x:Int),(y:Int)+1⟩=decide (y+1<H):=by
  rw[Bool.eq_iff_iff,inF_iff,decide_eq_true_eq,hw,hh];simp only;omega
 have hyW:(y:Int)*(W:Int)=((W*y:Nat):Int):=by rw[Nat.mul_comm,Int.natCast_mul]
 have b1:0<y→zal f ⟨(x:Int),(y:Int)-1⟩=i-W:=fun h=>by
  unfold zal;simp only;rw[hw,Int.sub_mul,hyW,Int.one_mul]
  have:W*1≤W*y:=Nat.mul_le_mul_left _ h
  omega
 have b2:0<x→zal f ⟨(x:Int)-1,(y:Int)⟩=i-1:=fun h=>by
  unfold zal;simp only;rw[hw,hyW];omega
 have b3:zal f ⟨(x:Int)+1,(y:Int)⟩=i+1:=by
  unfold zal;simp only;rw[hw,hyW];omega
 have b4:zal f ⟨(x:Int),(y:Int)+1⟩=i+W:=by
  unfold zal;simp only;rw[hw,Int.add_mul,hyW,Int.one_mul];omega
 simp only[List.filter_cons,List.filter_nil,a1,a2,a3,a4,decide_eq_true_eq]
 by_cases c1:0<y<;>by_cases c2:0<x<;>by_cases c3:x+1<W<;>by_cases c4:y+1<H<;>simp only[c1,c2,c3,c4,if_true,if_false,List.map_cons,List.map_nil,b3,b4,List.nil_append,List.cons_append,List.append_nil]<;>(first|rw[b1 c1,b2 c2]|rw[b1 c1]|rw[b2 c2]|rfl)
end Go.Proofs.YtmjbgbmegbkmhaaGreat
namespace Go.Proofs.YtmjbgbmegbkmhaaGreat
set_option linter.all false
open Go.RowKit
set_option maxRecDepth 100000
theorem zdq (a b:Cel):(decide (a.x=b.x)&&decide (a.y=b.y))=decide (a=b):=by
 rw[Bool.eq_iff_iff];cases a;cases b;simp
theorem yft (l m:List Cel) (hl:l.length≤9223372036854775807) (hm:m.length≤9223372036854775807):Spec Tryz.prog 51 [.c (.sl 2 (l.map za2)),.c (.sl 2 (m.map za2))] [] (B (decide (l=m))) []:=by
 refine spB Tryz.func51 26 [.tmp 4] Tryz.results51 ?_
 try refine xst ?_
 refine cI (fun h1 => ?_) fun h1 => ?_
 ·have e:l≠m:=by intro e;subst e;simp at h1
  try refine xst ?_
  exact zb0 rfl trivial (Wk.of (by rw[decide_eq_false e];rfl))
 ·try refine xst ?_
  refine zaw (fun k:Nat=>⟨[(13,I .i64 k),(12,I .i64 l.length),(1,.c (.sl 2 (m.map za2))),(0,.c (.sl 2 (l.map za2)))],[],0⟩) (fun k:Nat=>k≤l.length∧∀j,j<k→l.getD j default=m.getD j default) (fun k:Nat=>l.length-k) (0) (⟨Nat.zero_le _,fun j h=>by omega⟩) (To.mk [] rfl rfl List.nodup_nil trivial ?_) ?_
  ·simp(etaStruct := .none)only[push_cast,zab,seval]
  rintro k ⟨hk,hn⟩
  try refine xst ?_
  refine cI (fun h2 => ?_) fun h2 => ?_
  ·have hlt:k<l.length:=by omega
   have hlt2:k<m.length:=by omega
   try refine xz4 (gd hlt) (gd hlt2) za4 zdq ?_
   (try(refine⟨by kernel_rfl,?_⟩))
   try refine xz4 (gd hlt) (gd hlt2) za4 zdq ?_
   refine cI (fun h3 => ?_) fun h3 => ?_
   ·have e:l≠m:=by intro e;subst e;simp at h3
    try refine xz4 (gd hlt) (gd hlt2) za4 zdq ?_
    exact zb0 rfl trivial (Wk.of (by rw[decide_eq_false e];rfl))
   ·try refine xz4 (gd hlt) (gd hlt2) za4 zdq ?_
    refine⟨k+1,⟨by omega,fun j hj=>by rcases Nat.lt_or_ge j k with h|h;exact hn j h;rw[show j=k by omega];simpa using h3⟩,by omega,To.mk [] rfl rfl List.nodup_nil trivial ?_⟩
    ·(try(refine xz4 (gd hlt) (gd hlt2) za4 zdq ?_;try exact xtI))
  ·have e:l=m:=by
    refine List.ext_getElem (by omega) fun i i1 i2 => ?_
    have:=hn i (by omega)
    rwa [zac _ _ i1,zac _ _ i2]at this
   try refine xst ?_
   exact zb0 rfl trivial (Wk.of (by rw[decide_eq_true e];rfl))
theorem z1z (l m:List Int) (hl:l.length≤9223372036854775807) (hm:m.length≤9223372036854775807):Spec Tryz.prog 52 [.c (.sl 1 (l.map zad)),.c (.sl 1 (m.map zad))] [] (B (decide (l=m))) []:=by
 refine spB Tryz.func52 26 [.tmp 4] Tryz.results52 ?_
 try refine xst ?_
 refine cI (fun h1 => ?_) fun h1 => ?_
 ·have e:l≠m:=by intro e;subst e;simp at h1
  try refine xst ?_
  exact zb0 rfl trivial (Wk.of (by rw[decide_eq_false e];rfl))
 ·try refine xst ?_
  refine zaw (fun k:Nat=>⟨[(13,I .i64 k),(12,I .i64 l.length),(1,.c (.sl 1 (m.map zad))),(0,.c (.sl 1 (l.map zad)))],[],0⟩) (fun k:Nat=>k≤l.length∧∀j,j<k→l.getD j default=m.getD j default) (fun k:Nat=>l.length-k) (0) (⟨Nat.zero_le _,fun j h=>by omega⟩) (To.mk [] rfl rfl List.nodup_nil trivial ?_) ?_
  ·simp(etaStruct := .none)only[push_cast,zab,seval]
  rintro k ⟨hk,hn⟩
  try refine xst ?_
  refine cI (fun h2 => ?_) fun h2 => ?_
  ·have hlt:k<l.length:=by omega
   have hlt2:k<m.length:=by omega
   iterate 2(try simp(etaStruct := .none)only[push_cast,zab,seval,zaa _ _ _ hlt,zaa _ _ _ hlt2,zad,decide_not];try refine xsu ?_)
   (try(refine⟨by kernel_rfl,?_⟩))
   iterate 2(try simp(etaStruct := .none)only[push_cast,zab,seval,zaa _ _ _ hlt,zaa _ _ _ hlt2,zad,decide_not];try refine xsu ?_)
   refine cI (fun h3 => ?_) fun h3 => ?_
   ·have e:l≠m:=by intro e;subst e;simp at h3
    iterate 2(try simp(etaStruct := .none)only[push_cast,zab,seval,zaa _ _ _ hlt,zaa _ _ _ hlt2,zad,decide_not];try refine xsu ?_)
    exact zb0 rfl trivial (Wk.of (by rw[decide_eq_false e];rfl))
   ·iterate 2(try simp(etaStruct := .none)only[push_cast,zab,seval,zaa _ _ _ hlt,zaa _ _ _ hlt2,zad,decide_not];try refine xsu ?_)
    refine⟨k+1,⟨by omega,fun j hj=>by rcases Nat.lt_or_ge j k with h|h;exact hn j h;rw[show j=k by omega];simpa using h3⟩,by omega,To.mk [] rfl rfl List.nodup_nil trivial ?_⟩
    ·(iterate 2((try simp(etaStruct := .none)only[push_cast,zab,seval,zaa _ _ _ hlt,zaa _ _ _ hlt2,zad,decide_not]);(try(refine xsu ?_;try exact xtI))))
  ·have e:l=m:=by
    refine List.ext_getElem (by omega) fun i i1 i2 => ?_
    have:=hn i (by omega)
    rwa [zac _ _ i1,zac _ _ i2]at this
   try refine xst ?_
   exact zb0 rfl trivial (Wk.of (by rw[decide_eq_true e];rfl))
end Go.Proofs.YtmjbgbmegbkmhaaGreat
namespace Go.Proofs.YtmjbgbmegbkmhaaGreat
set_option linter.all false
open Go.RowKit
set_option maxRecDepth 100000
set_option maxHeartbeats 1000000
def zb2 (f:Fld) (c:Cel):Bool:=inF f c && !decide (zah f c=1)
structure Knd where
 life:Int
 blow:Int
 load:Int
 price:Int
 deriving DecidableEq, Inhabited
def zbe (k:Int):Knd:=if k=1 then ⟨10,1,1,5⟩else if k=2 then ⟨20,2,4,12⟩else ⟨0,0,0,0⟩
abbrev ykv (k:Knd):AV := .agg [I .i64 k.life,I .i64 k.blow,I .i64 k.load,I .i64 k.price]
def zfw (p:Nat→Bool):Nat→Bool
 | 0=>true
 | k+1=>zfw p k&&p k
theorem zbd (p:Nat→Bool):∀n,zfw p n=true↔∀i,i<n→p i=true
 | 0=>by simp[zfw]
 | n+1=>by
  rw[zfw,Bool.and_eq_true,zbd p n]
  constructor
  ·rintro⟨a,b⟩ i hi
   rcases Nat.lt_or_ge i n with h|h
   ·exact a i h
   ·obtain rfl:i=n:=by omega
    exact b
  ·intro h
   exact⟨fun i hi=>h i (by omega),h n (by omega)⟩
def zmq (w:Wld) (i:Nat):Bool:=zb2 w.f (w.bases.getD i default)&&zai (w.stocks.getD i default) 0 1000000&&zfw (fun j => !decide (w.bases.getD j default=w.bases.getD i default)) i
def zmi (w:Wld) (i:Nat):Bool:=zai (w.mines.getD i default) 0 1000000&&(decide (w.mines.getD i default=0)||decide (w.f.p.getD i default=3))
def ycq (w:Wld) (t:Trp):Bool:=zai t.id 1 (w.next-1)&&zai t.owner 0 ((w.bases.length:Int)-1)&&zb2 w.f t.c&&zai t.life 1 (zbe t.kind).life&&zai t.load 0 (5*(2-t.kind))
def z7s (w:Wld) (i:Nat):Bool:=zfw (fun j=>decide ((w.troops.getD j default).id<(w.troops.getD i default).id) && !decide ((w.troops.getD j default).c=(w.troops.getD i default).c)) i
def zey (w:Wld) (i:Nat):Bool:=zai (w.troops.getD i default).kind 1 2&&(ycq w (w.troops.getD i default)&&z7s w i)
def zhp (w:Wld):Bool:=zfw (zmq w) w.bases.length&&zfw (zmi w) w.mines.length&&zfw (zey w) w.troops.length
def zjg (w:Wld):Bool:=decide (w.stocks.length=w.bases.length)&&decide (w.mines.length=w.f.p.length)&&zai w.next 1 1000000&&zai w.now 0 1000000
def zam (w:Wld):Int:=if zbk w.f≠0 then zbk w.f else if 8<w.bases.length∨100<w.troops.length then 2 else if zjg w&&zhp w then 0 else 4
end Go.Proofs.YtmjbgbmegbkmhaaGreat
namespace Go.Proofs.YtmjbgbmegbkmhaaGreat
set_option linter.all false
open Go.RowKit
def zed (c:Cel):Bool:=decide (-1000≤c.x∧c.x≤1000 ∧ -1000≤c.y∧c.y≤1000)
def lq (n m k:Nat):Nat:=(2*k*m+n)/(2*n)
def lr (n m k:Nat):Nat:=(2*k*m+n) % (2*n)
theorem zoi (n m k:Nat) (hn:0<n) (hm:m≤n):(2*n≤lr n m k+2*m→lq n m (k+1)=lq n m k+1∧lr n m (k+1)=lr n m k+2*m-2*n)∧(lr n m k+2*m<2*n→lq n m (k+1)=lq n m k∧lr n m (k+1)=lr n m k+2*m):=by
 have e:2*(k+1)*m+n=(2*k*m+n)+2*m:=by rw[Nat.mul_add,Nat.add_mul];omega
 have hd:=Nat.div_add_mod (2*k*m+n) (2*n)
 have hlt:(2*k*m+n) % (2*n)<2*n:=Nat.mod_lt _ (by omega)
 unfold lq lr
 rw[e]
 constructor
 ·intro h
  have e2:2*k*m+n+2*m=((2*k*m+n) % (2*n)+2*m-2*n)+2*n*((2*k*m+n)/(2*n)+1):=by rw[Nat.mul_add];omega
  rw[e2,Nat.add_mul_div_left _ _ (by omega),Nat.add_mul_mod_self_left,Nat.div_eq_of_lt (by omega),Nat.mod_eq_of_lt (by omega)]
  omega
 ·intro h
  have e2:2*k*m+n+2*m=((2*k*m+n) % (2*n)+2*m)+2*n*((2*k*m+n)/(2*n)):=by omega
  rw[e2,Nat.add_mul_div_left _ _ (by omega),Nat.add_mul_mod_self_left,Nat.div_eq_of_lt (by omega),Nat.mod_eq_of_lt (by omega)]
  omega
theorem zs3 (n m:Nat):lq n m 0=0:=by
 unfold lq
 rcases Nat.eq_zero_or_pos n with rfl|h
 ·simp
 ·rw[Nat.mul_zero,Nat.zero_mul,Nat.zero_add];exact Nat.div_eq_of_lt (by omega)
theorem yay (n m:Nat):lr n m 0=n:=by
 unfold lr
 rcases Nat.eq_zero_or_pos n with rfl|h
 ·simp
 ·rw[Nat.mul_zero,Nat.zero_mul,Nat.zero_add];exact Nat.mod_eq_of_lt (by omega)
theorem yiq (n m k:Nat) (h:0<n):lr n m k<2*n:=Nat.mod_lt _ (by omega)
theorem z5w (n m k:Nat) (hn:0<n) (hk:k≤n):lq n m k≤m:=by
 unfold lq
 have:2*k*m≤2*n*m:=Nat.mul_le_mul_right _ (by omega)
 have:(2*k*m+n)/(2*n)<m+1:=(Nat.div_lt_iff_lt_mul (by omega)).2 (by rw[Nat.add_mul,Nat.mul_comm m];omega)
 omega
def lpt (a:Cel) (sx sy:Int) (X Y k:Nat):Cel:=if Y≤X then ⟨a.x+sx*k,a.y+sy*lq X Y k⟩else ⟨a.x+sx*lq Y X k,a.y+sy*k⟩
def zy3 (a:Cel) (sx sy:Int) (X Y n:Nat):List Cel:=(List.range (n+1)).map (lpt a sx sy X Y)
theorem ziy {c:Cel} (h:zed c=true) : -1000≤c.x∧c.x≤1000 ∧ -1000≤c.y∧c.y≤1000:=by simpa[zed]using h
theorem zqy (a:Cel) (sx sy:Int) (X Y n:Nat):zy3 a sx sy X Y (n+1)=zy3 a sx sy X Y n ++ [lpt a sx sy X Y (n+1)]:=by simp[zy3,List.range_succ]
theorem zao (a:Cel) (sx sy:Int) (X Y n:Nat):(zy3 a sx sy X Y n).length=n+1:=by simp[zy3]
theorem zoj (a:Cel) (sx sy:Int) (X Y:Nat):lpt a sx sy X Y 0=a:=by simp[lpt,zs3]
theorem z5y (a:Cel) (sx sy:Int) (X Y k:Nat) (h1:sx = -1∨sx=0∨sx=1) (h2:sy = -1∨sy=0∨sy=1) (hX:X≤2000) (hY:Y≤2000) (hk:k≤max X Y) (ha:zed a=true) :
 -3000≤(lpt a sx sy X Y k).x∧(lpt a sx sy X Y k).x≤3000 ∧ -3000≤(lpt a sx sy X Y k).y∧(lpt a sx sy X Y k).y≤3000:=by
 have hn:=ziy ha
 have key:∀(s:Int) (q:Nat),(s = -1∨s=0∨s=1)→q≤2000 → -2000≤s*q∧s*q≤2000:=by
  intro s q hs hq
  rcases hs with rfl|rfl|rfl<;>omega
 unfold lpt
 split
 ·have hq:lq X Y k≤2000:=by
   rcases Nat.eq_zero_or_pos X with rfl|h
   ·obtain rfl:k=0:=by omega
    rw[zs3];omega
   ·have:=z5w X Y k h (by omega);omega
  have a1:=key sx k h1 (by omega)
  have a2:=key sy _ h2 hq
  simp only;omega
 ·have hq:lq Y X k≤2000:=by have:=z5w Y X k (by omega) (by omega);omega
  have a1:=key sx _ h1 hq
  have a2:=key sy k h2 (by omega)
  simp only;omega
theorem z1l (a:Cel) (sx sy:Int) (X Y k:Nat) (h:Y≤X) (h0:0<X):lpt a sx sy X Y (k+1)=⟨(lpt a sx sy X Y k).x+sx,if 2*X≤lr X Y k+2*Y then (lpt a sx sy X Y k).y+sy else (lpt a sx sy X Y k).y⟩:=by
 simp only[lpt,if_pos h]
 have hs:=zoi X Y k h0 h
 have e1:a.x+sx*((k+1:Nat):Int)=a.x+sx*k+sx:=by rw[Int.natCast_add,Int.mul_add];omega
 rw[e1]
 by_cases hc:2*X≤lr X Y k+2*Y
 ·rw[if_pos hc,(hs.1 hc).1,Int.natCast_add,Int.mul_add];congr 1;omega
 ·rw[if_neg hc,(hs.2 (by omega)).1]
theorem z1k (a:Cel) (sx sy:Int) (X Y k:Nat) (h:X<Y):lpt a sx sy X Y (k+1)=⟨if 2*Y≤lr Y X k+2*X then (lpt a sx sy X Y k).x+sx else (lpt a sx sy X Y k).x,(lpt a sx sy X Y k).y+sy⟩:=by
 simp only[lpt,if_neg (show ¬Y≤X by omega)]
 have hs:=zoi Y X k (by omega) (by omega)
 have e1:a.y+sy*((k+1:Nat):Int)=a.y+sy*k+sy:=by rw[Int.natCast_add,Int.mul_add];omega
 rw[e1]
 by_cases hc:2*Y≤lr Y X k+2*X
 ·rw[if_pos hc,(hs.1 hc).1,Int.natCast_add,Int.mul_add];congr 1;omega
 ·rw[if_neg hc,(hs.2 (by omega)).1]
end Go.Proofs.YtmjbgbmegbkmhaaGreat
namespace Go.Proofs.YtmjbgbmegbkmhaaGreat
set_option linter.all false
open Go.RowKit
set_option maxRecDepth 100000
set_option maxHeartbeats 2000000
theorem zvd (c:Cel) (hx:zik c.x) (hy:zik c.y):Spec Tryz.prog 176 [zgw c] [] (B (zed c)) []:=by
 refine spB Tryz.func176 23 [.tmp 2] Tryz.results176 ?_
 try refine xst ?_
 refine zb0 rfl trivial (Wk.of ?_)
 simp(etaStruct := .none)only[push_cast,zab,seval]
 simp only[I,B,AV.c.injEq,PV.v.injEq,Value.bool.injEq,zed,IntKind.wrap_i64]
 rw[Bool.eq_iff_iff]
 simp only[Bool.and_eq_true,decide_eq_true_eq]
 repeat' split
 all_goals omega
theorem zum (n:Int) (hn:zik n) (h:n ≠ -9223372036854775808):Spec Tryz.prog 177 [I .i64 n] [] (.tup [I .i64 n.sign,I .i64 n.natAbs]) []:=by
 refine spB Tryz.func177 13 [.tmp 2,.tmp 3] Tryz.results177 ?_
 try refine xst ?_
 refine cI (fun h1 => ?_) fun h1 => ?_
 ·have e1:n.sign = -1:=Int.sign_eq_neg_one_of_neg h1
  have e2:(n.natAbs:Int) = -n:=by omega
  try refine xz2 e1 e2 ?_
  exact xrz rfl
 ·try refine xst ?_
  refine cI (fun h2 => ?_) fun h2 => ?_
  ·have e1:n.sign=1:=Int.sign_eq_one_of_pos h2
   have e2:(n.natAbs:Int)=n:=by omega
   try refine xst ?_
   exact xrz rfl
  ·obtain rfl:n=0:=by omega
   try refine xst ?_
   exact xrz rfl
theorem sg (d:Int):d.sign = -1∨d.sign=0∨d.sign=1:=by
 rcases Int.lt_trichotomy d 0 with h|h|h
 ·rw[Int.sign_eq_neg_one_of_neg h];omega
 ·rw[h];simp
 ·rw[Int.sign_eq_one_of_pos h];omega
def zlq (a b:Cel):List Cel:=zy3 a (b.x-a.x).sign (b.y-a.y).sign (b.x-a.x).natAbs (b.y-a.y).natAbs (max (b.x-a.x).natAbs (b.y-a.y).natAbs)
def zm5 (o:Ord):Bool := !zai o.by_ 0 7 || !zai o.kind 1 5 || !zai o.who 0 1000000 || !zed o.c || !zai o.what 0 1000000
def zn8 (o:Ord):Bool:=decide (o.kind=5∧o.who≠0)||decide (o.kind≠2∧o.kind≠3∧¬(o.c.x=0∧o.c.y=0))||decide (o.kind≠1∧o.kind≠5∧o.what≠0)
def zer (o:Ord):Int:=if zm5 o then 1 else if zn8 o then 4 else 0
theorem zfa {o:Ord} (h:zer o=0):(0≤o.by_∧o.by_≤7)∧(1≤o.kind∧o.kind≤5)∧(0≤o.who∧o.who≤1000000)∧(-1000≤o.c.x∧o.c.x≤1000 ∧ -1000≤o.c.y∧o.c.y≤1000)∧(0≤o.what∧o.what≤1000000) ∧
 (o.kind=5→o.who=0)∧(o.kind≠2→o.kind≠3→o.c=⟨0,0⟩)∧(o.kind≠1→o.kind≠5→o.what=0):=by
 unfold zer at h
 split at h
 ·simp at h
 ·rename_i h1
  split at h
  ·simp at h
  ·rename_i h2
   simp only[zm5,Bool.or_eq_true,Bool.not_eq_true',not_or,Bool.not_eq_false,within_iff,zed,decide_eq_true_eq]at h1
   simp only[zn8,Bool.or_eq_true,decide_eq_true_eq,not_or]at h2
   obtain⟨⟨⟨⟨a1,a2⟩,a3⟩,a4⟩,a5⟩:=h1
   refine⟨a1,a2,a3,a4,a5,fun h=>by omega,fun h h' => ?_,fun h h'=>by omega⟩
   have:o.c.x=0∧o.c.y=0:=by omega
   cases hc:o.c;rw[hc]at this;simp at this;rw[this.1,this.2]
def zjm:List Ord→Int
 | []=>0
 | o::r=>if zer o≠0 then zer o else zjm r
theorem zrh:∀(l:List Ord) (k:Nat),k<l.length→zjm (l.drop k)=if zer (l.getD k default)≠0 then zer (l.getD k default)else zjm (l.drop (k+1)):=by
 intro l k hk
 rw[List.drop_eq_getElem_cons hk,zac _ _ hk];rfl
theorem zhh (l:List Ord):∀k,k≤l.length→(∀j,j<k→zer (l.getD j default)=0)→zjm l=zjm (l.drop k)
 | 0,_,_=>by simp
 | k+1,hk,h=>by
  rw[zhh l k (by omega) fun j hj=>h j (by omega),zrh l k (by omega),if_neg (fun h'=>h' (h k (by omega)))]
theorem zrg:∀(l:List Ord),zjm l=0→∀o∈l,zer o=0
 | [],_,o,ho=>by simp at ho
 | a::r,h,o,ho=>by
  unfold zjm at h
  split at h
  ·rename_i h1;exact absurd h h1
  ·rename_i h1
   rcases List.mem_cons.1 ho with rfl|ho
   ·exact Decidable.not_not.1 h1
   ·exact zrg r h o ho
def zc6 (l:List Ord):Int:=if 100<l.length then 2 else zjm l
theorem zgg {l:List Ord} (h:zc6 l=0):l.length≤100∧∀o∈l,zer o=0:=by
 unfold zc6 at h
 split at h
 ·simp at h
 ·rename_i h1;exact⟨by omega,zrg l h⟩
def zbs (o:Ord):Ord:=⟨o.by_,o.kind,if o.kind=5 then 0 else o.who,if o.kind≠2∧o.kind≠3 then ⟨0,0⟩else o.c,if o.kind≠1∧o.kind≠5 then 0 else o.what⟩
theorem zc7 (a b:Ord):(decide (a.by_=b.by_)&&(decide (a.kind=b.kind)&&(decide (a.who=b.who)&&(decide (a.c.x=b.c.x)&&(decide (a.c.y=b.c.y)&&decide (a.what=b.what))))))=decide (a=b):=by
 rw[Bool.eq_iff_iff];obtain⟨_,_,_,⟨_,_⟩,_⟩:=a;obtain⟨_,_,_,⟨_,_⟩,_⟩:=b;simp[and_assoc]
theorem zbq (o:Ord):decide (zbs o=o) = !zn8 o:=by
 obtain⟨b,k,w,⟨x,y⟩,t⟩:=o
 unfold zbs zn8
 rw[Bool.eq_iff_iff]
 simp only[decide_eq_true_eq,Bool.not_eq_true',Bool.or_eq_false_iff,decide_eq_false_iff_not,Ord.mk.injEq,true_and]
 constructor
 ·rintro⟨h1,h2,h3⟩
  refine⟨⟨fun h => ?_,fun h => ?_⟩,fun h => ?_⟩
  ·rw[if_pos h.1]at h1;omega
  ·rw[if_pos ⟨h.1,h.2.1⟩]at h2;simp at h2;omega
  ·rw[if_pos ⟨h.1,h.2.1⟩]at h3;omega
 ·rintro⟨⟨h1,h2⟩,h3⟩
  refine⟨?_,?_,?_⟩
  ·split<;>omega
  ·split
   ·simp;omega
   ·rfl
  ·split<;>omega
theorem zlf (c:Cel):(!zai c.x (-1000) 1000 || !zai c.y (-1000) 1000) = !zed c:=by
 unfold zai zed
 rw[Bool.eq_iff_iff];simp;omega
theorem ze1 (n a b:Int):Spec Tryz.prog 125 [I .i64 n,I .i64 a,I .i64 b] [] (B (zai n a b)) []:=by
 refine spB Tryz.func125 15 [.tmp 6] Tryz.results125 ?_
 try refine xst ?_
 exact zb0 rfl trivial (Wk.of (congrArg B (by unfold zai;first|rfl|simp)))
theorem yf1 (o:Ord):Spec Tryz.prog 126 [zpf o] [] (zpf (zbs o)) []:=by
 refine spB Tryz.func126 27 [.cell 2 48] Tryz.results126 ?_
 try refine xst ?_
 refine cI (fun h1 => ?_) fun h1 => ?_
 ·try refine xst ?_
  refine cI (fun h2 => ?_) fun h2 => ?_
  ·try refine xst ?_
   refine cI (fun h3 => ?_) fun h3 => ?_
   ·try refine xst ?_
    (first|(refine zar rfl (Wk.of ?_);(try simp(etaStruct := .none)only[push_cast,zab,seval]);first|done|(simp[zbs, *];done)|(simp_all[zbs];done))|(refine zar rfl ?_;(try simp(etaStruct := .none)only[push_cast,zab,seval]);(try simp[zbs, *]);(try exact wkc)))
   ·have e2:¬(o.kind≠1∧o.kind≠5):=by omega
    try refine xst ?_
    (first|(refine zar rfl (Wk.of ?_);(try simp(etaStruct := .none)only[push_cast,zab,seval]);first|done|(simp[zbs, *];done)|(simp_all[zbs];done))|(refine zar rfl ?_;(try simp(etaStruct := .none)only[push_cast,zab,seval]);(try simp[zbs, *]);(try exact wkc)))
  ·have e1:¬(o.kind≠2∧o.kind≠3):=by omega
   try refine xst ?_
   refine cI (fun h4 => ?_) fun h4 => ?_
   ·try refine xst ?_
    (first|(refine zar rfl (Wk.of ?_);(try simp(etaStruct := .none)only[push_cast,zab,seval]);first|done|(simp[zbs, *];done)|(simp_all[zbs];done))|(refine zar rfl ?_;(try simp(etaStruct := .none)only[push_cast,zab,seval]);(try simp[zbs, *]);(try exact wkc)))
   ·have e2:¬(o.kind≠1∧o.kind≠5):=by omega
    try refine xst ?_
    (first|(refine zar rfl (Wk.of ?_);(try simp(etaStruct := .none)only[push_cast,zab,seval]);first|done|(simp[zbs, *];done)|(simp_all[zbs];done))|(refine zar rfl ?_;(try simp(etaStruct := .none)only[push_cast,zab,seval]);(try simp[zbs, *]);(try exact wkc)))
 ·try refine xst ?_
  refine cI (fun h5 => ?_) fun h5 => ?_
  ·try refine xst ?_
   refine cI (fun h6 => ?_) fun h6 => ?_
   ·try refine xst ?_
    (first|(refine zar rfl (Wk.of ?_);(try simp(etaStruct := .none)only[push_cast,zab,seval]);first|done|(simp[zbs, *];done)|(simp_all[zbs];done))|(refine zar rfl ?_;(try simp(etaStruct := .none)only[push_cast,zab,seval]);(try simp[zbs, *]);(try exact wkc)))
   ·have e2:o.kind=1:=by omega
    try refine xst ?_
    (first|(refine zar rfl (Wk.of ?_);(try simp(etaStruct := .none)only[push_cast,zab,seval]);first|done|(simp[zbs, *];done)|(simp_all[zbs];done))|(refine zar rfl ?_;(try simp(etaStruct := .none)only[push_cast,zab,seval]);(try simp[zbs, *]);(try exact wkc)))
  ·have e1:¬(o.kind≠2∧o.kind≠3):=by omega
   try refine xst ?_
   refine cI (fun h7 => ?_) fun h7 => ?_
   ·try refine xst ?_
    (first|(refine zar rfl (Wk.of ?_);(try simp(etaStruct := .none)only[push_cast,zab,seval]);first|done|(simp[zbs, *];done)|(simp_all[zbs];done))|(refine zar rfl ?_;(try simp(etaStruct := .none)only[push_cast,zab,seval]);(try simp[zbs, *]);(try exact wkc)))
   ·have e2:¬(o.kind≠1∧o.kind≠5):=by omega
    try refine xst ?_
    (first|(refine zar rfl (Wk.of ?_);(try simp(etaStruct := .none)only[push_cast,zab,seval]);first|done|(simp[zbs, *];done)|(simp_all[zbs];done))|(refine zar rfl ?_;(try simp(etaStruct := .none)only[push_cast,zab,seval]);(try simp[zbs, *]);(try exact wkc)))
theorem zfc (o:Ord):Spec Tryz.prog 75 [zpf o] [] (I .i64 (zer o)) []:=by
 refine spB Tryz.func75 43 [.tmp 2] Tryz.results75 ?_
 try refine xz2 (zc7 (zbs o) o) (zbq o) ?_
 refine caP (ze1 o.by_ 0 7) ?_
 try refine xz2 (zc7 (zbs o) o) (zbq o) ?_
 refine gcP (fun hcc=>ze1 o.kind 1 5) ?_
 try refine xz2 (zc7 (zbs o) o) (zbq o) ?_
 refine gcP (fun hcc=>ze1 o.who 0 1000000) ?_
 try refine xz2 (zc7 (zbs o) o) (zbq o) ?_
 refine gcP (fun hcc=>ze1 o.c.x (-1000) 1000) ?_
 try refine xz2 (zc7 (zbs o) o) (zbq o) ?_
 refine gcP (fun hcc=>ze1 o.c.y (-1000) 1000) ?_
 try refine xz2 (zc7 (zbs o) o) (zbq o) ?_
 refine gcP (fun hcc=>ze1 o.what 0 1000000) ?_
 try refine xz2 (zc7 (zbs o) o) (zbq o) ?_
 refine cI (fun h1 => ?_) fun h1 => ?_
 ·have hb:zm5 o=true:=by unfold zm5;rw[←zlf];simpa[or_assoc]using h1
  try refine xz2 (zc7 (zbs o) o) (zbq o) ?_
  (first|(refine zar rfl (Wk.of ?_);(try simp(etaStruct := .none)only[push_cast,zab,seval]);first|done|(simp[zer,hb, *];done)|(simp_all[zer,hb];done))|(refine zar rfl ?_;(try simp(etaStruct := .none)only[push_cast,zab,seval]);(try simp[zer,hb, *]);(try exact wkc)))
 ·have hb:zm5 o=false:=by unfold zm5;rw[←zlf];simpa[and_assoc]using h1
  try refine xz2 (zc7 (zbs o) o) (zbq o) ?_
  refine caP (yf1 o) ?_
  try refine xz2 (zc7 (zbs o) o) (zbq o) ?_
  (try(refine⟨by kernel_rfl,?_⟩))
  try refine xz2 (zc7 (zbs o) o) (zbq o) ?_
  refine cI (fun h2 => ?_) fun h2 => ?_
  ·try refine xz2 (zc7 (zbs o) o) (zbq o) ?_
   (first|(refine zar rfl (Wk.of ?_);(try simp(etaStruct := .none)only[push_cast,zab,seval]);first|done|(simp[zer,hb, *];done)|(simp_all[zer,hb];done))|(refine zar rfl ?_;(try simp(etaStruct := .none)only[push_cast,zab,seval]);(try simp[zer,hb, *]);(try exact wkc)))
  ·try refine xz2 (zc7 (zbs o) o) (zbq o) ?_
   (first|(refine zar rfl (Wk.of ?_);(try simp(etaStruct := .none)only[push_cast,zab,seval]);first|done|(simp[zer,hb, *];done)|(simp_all[zer,hb];done))|(refine zar rfl ?_;(try simp(etaStruct := .none)only[push_cast,zab,seval]);(try simp[zer,hb, *]);(try exact wkc)))
theorem zvb (l:List Ord) (hl:l.length≤9223372036854775807):Spec Tryz.prog 38 [.c (.sl 6 (l.map zd4))] [] (I .i64 (zc6 l)) []:=by
 refine spB Tryz.func38 21 [.tmp 2] Tryz.results38 ?_
 try refine xst ?_
 refine cI (fun h1 => ?_) fun h1 => ?_
 ·have h1':100<l.length:=by omega
  try refine xst ?_
  (first|(refine zar rfl (Wk.of ?_);(try simp(etaStruct := .none)only[push_cast,zab,seval]);first|done|(simp[zc6, *];done)|(simp_all[zc6];done))|(refine zar rfl ?_;(try simp(etaStruct := .none)only[push_cast,zab,seval]);(try simp[zc6, *]);(try exact wkc)))
 ·try refine xst ?_
  refine zaw (fun k:Nat=>⟨[(11,I .i64 k),(10,I .i64 l.length),(9,.c (.sl 6 (l.map zd4)))],[],0⟩) (fun k:Nat=>k≤l.length∧∀j,j<k→zer (l.getD j default)=0) (fun k:Nat=>l.length-k) (0) (⟨Nat.zero_le _,fun j h=>by omega⟩) (To.mk [] rfl rfl List.nodup_nil trivial ?_) ?_
  ·simp(etaStruct := .none)only[push_cast,zab,seval]
  rintro k ⟨hk,hn⟩
  try refine xst ?_
  refine cI (fun h2 => ?_) fun h2 => ?_
  ·have hlt:k<l.length:=by omega
   try refine xz2 (gd hlt) zb3 ?_
   refine caP (zfc (l.getD k default)) ?_
   try refine xz2 (gd hlt) zb3 ?_
   refine cI (fun h3 => ?_) fun h3 => ?_
   ·have e:zc6 l=zer (l.getD k default):=by
     unfold zc6
     rw[if_neg (by omega),zhh l k hk hn,zrh l k hlt,if_pos h3]
    try refine xz2 (gd hlt) zb3 ?_
    (first|(refine zar rfl (Wk.of ?_);(try simp(etaStruct := .none)only[push_cast,zab,seval]);first|done|(simp[e, *];done)|(simp_all[e];done))|(refine zar rfl ?_;(try simp(etaStruct := .none)only[push_cast,zab,seval]);(try simp[e, *]);(try exact wkc)))
   ·try refine xz2 (gd hlt) zb3 ?_
    refine⟨k+1,⟨by omega,fun j hj=>by rcases Nat.lt_or_ge j k with h|h;exact hn j h;rw[show j=k by omega];exact h3⟩,by omega,To.mk [] rfl rfl List.nodup_nil trivial ?_⟩
    ·(try(refine xz2 (gd hlt) zb3 ?_;try exact xtI))
  ·have e:zc6 l=0:=by
    unfold zc6
    rw[if_neg (by omega),zhh l k hk hn,List.drop_eq_nil_of_le (by omega)];rfl
   try refine xst ?_
   (first|(refine zar rfl (Wk.of ?_);(try simp(etaStruct := .none)only[push_cast,zab,seval]);first|done|(simp[e, *];done)|(simp_all[e];done))|(refine zar rfl ?_;(try simp(etaStruct := .none)only[push_cast,zab,seval]);(try simp[e, *]);(try exact wkc)))
end Go.Proofs.YtmjbgbmegbkmhaaGreat
namespace Go.Proofs.YtmjbgbmegbkmhaaGreat
set_option linter.all false
open Go.RowKit
set_option maxRecDepth 100000
theorem z0t (l:List Ord) (hl:l.length≤2932031007402):Spec Tryz.prog 71 [.c (.sl 6 (l.map zd4))] [] (.own 0) [.row 48 6 (l.map zd4)]:=by
 refine spB Tryz.func71 8 [.tmp 2] Tryz.results71 ?_
 try refine xst ?_
 intro b hb
 try refine xst ?_
 refine zax (fun h => ?_) (fun h => ?_)
 ·try refine xst ?_
  have e:=hb h
  refine zmg (To.nil 2 48 6 rfl) (zcc [0] rfl rfl (by decide) ⟨?_,trivial⟩ trivial ?_)
  ·simp(etaStruct := .none)only[push_cast,zab,seval,e]
  ·simp(etaStruct := .none)only[push_cast,zab,seval]
 ·try refine xst ?_
  refine zcc [1] rfl rfl (by decide) ⟨?_,trivial⟩ trivial ?_
  ·simp(etaStruct := .none)only[push_cast,zab,seval]
  ·simp(etaStruct := .none)only[push_cast,zab,seval]
theorem zh3 (l:List Ord) (hl:l.length≤2932031007402):Spec Tryz.prog 71 [.c (.sl 6 (l.map zd4))] [] (.c (.sl 6 (l.map zd4))) []:=by
 refine spB Tryz.func71 8 [.tmp 2] Tryz.results71 ?_
 try refine xst ?_
 intro b hb
 try refine xst ?_
 refine zax (fun h => ?_) (fun h => ?_)
 ·try refine xst ?_
  exact zb0 rfl trivial (by rw[hb h];exact Wk.nil _)
 ·try refine xst ?_
  exact zb0 rfl trivial (Wk.refl _)
end Go.Proofs.YtmjbgbmegbkmhaaGreat
