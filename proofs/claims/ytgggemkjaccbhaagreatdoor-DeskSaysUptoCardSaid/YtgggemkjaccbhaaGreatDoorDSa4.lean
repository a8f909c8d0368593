/- Lemmas for the proof of deskSays.proved. -/
import Derived.Test.YtgggemkjaccbhaaGreatDoorDSa3
import Derived.Shelf.Strings.Builder1
import Derived.Shelf.Strings.Builder2
import Derived.Shelf.Strings.OnBuilder
import Derived.Shelf.Small.Strs
import Derived.Shelf.Strings.BuilderF
import Derived.Shelf.Strconv.Itoa0
import Derived.Shelf.Strconv.Itoa1
import Derived.Shelf.LaysM
import Derived.Shelf.Strconv.Itoa2
import Derived.Shelf.Strconv.Itoa3
import Derived.Shelf.Strconv.Lower
import Derived.Shelf.Strconv.ParseUint10
import Derived.Shelf.Strconv.ParseUintEmpty
import Derived.Shelf.Strconv.ParseUint10b64
import Derived.Shelf.Strconv.ParseUint10b32
import Derived.Shelf.Strconv.ParseUint10b16
import Derived.Shelf.Strconv.ParseUint10b8
import Derived.Shelf.Strconv.ParseUint10At
import Derived.Ground.MpProg
import Derived.Shelf.Pu.ParseUintPublic10
import Derived.Shelf.Pu.ErrVarParseUint
import Derived.Shelf.Strings.Search1
import Derived.Shelf.Strings.Search2
import Derived.Shelf.Strings.Search3
import Derived.Shelf.Strings.Cut
import Derived.Shelf.Strings.Count
import Derived.Shelf.Strings.Shaped
import Derived.Shelf.Strings.Split
import Derived.Shelf.Strings.Replace
import Derived.Shelf.Strings.SplitShaped
import Derived.Shelf.Bits.Mul64
import Derived.Shelf.Unicode.DecodeSlow
import Derived.Test.YtgggemkjaccbhaaGreatDoorProg
import Derived.Defers
import Derived.Recover
namespace Go.Proofs.YtgggemkjaccbhaaGreatDoor
set_option linter.all false
open Go.RowKit
set_option maxRecDepth 100000
set_option maxHeartbeats 4000000
theorem RelL.setAt {U F:Nat→Prop} {β : Nat→Option Bind} {w:World} {y:AV} : ∀ {cs:List AV} {us:List Value} (j:Nat),RelL U w F β cs us→(∀u,us[j]? = some u→RelA U w F β y u)→RelL U w F β (cs.set j y) us
 | [],us,j,h,_=>by simpa using h
 | x::r,us,j,h,hy=>by
  simp only[RelL]at h
  obtain⟨u,us',rfl,h1,h2⟩:=h
  cases j with
  | zero=>simp only[List.set_cons_zero,RelL];exact⟨u,us',rfl,hy u rfl,h2⟩
  | succ j=>simp only[List.set_cons_succ,RelL];exact⟨u,us',rfl,h1,RelL.setAt j h2 (fun v hv=>hy v (by simpa using hv))⟩
theorem To.nilC {k:Nat} {s:St} (id j e sz tt:Nat) (cs:List AV) (hc:zan s.h id = .blk tt cs) (hj:cs[j]? = some (.c (.v (.slice none 0 0)))):ToK k s ⟨s.t,(s.n,.row e sz [])::(id,.blk tt (cs.set j (.own s.n)))::s.h,s.n+1⟩:=by
 intro H F β a w hk C
 obtain⟨bd0,hb1,hb2⟩:=C.m.ch id (by rw[hc];simp)
 have hidn:id≠s.n:=fun h=>absurd (C.m.used _ _ hb1) (by rw[h];exact Nat.lt_irrefl _)
 obtain⟨M,E⟩:=C.m.step (w':=w) (h':=zan ((s.n,.row e sz [])::(id,.blk tt (cs.set j (.own s.n)))::s.h)) (β':=zb2 β s.n (some ⟨.slice none 0 0,none,0,sz,[]⟩)) (F':=F) (U':=(· < s.n+1)) (fun i=>i=s.n∨i=id)
  (fun i hi=>by simp only[not_or]at hi;simp[zb2,Ne.symm hi.1]) (fun i hi=>by simp only[not_or]at hi;simp[zan,Ne.symm hi.1,Ne.symm hi.2]) rfl rfl rfl (Nat.le_refl _) (fun _ _ _=>rfl) (fun i hi=>Nat.lt_succ_of_lt hi) (fun b hb=>hb)
  (fun b hb=>⟨C.m.fin b hb,.inl hb⟩)
  (fun i bd' hi hu hb=>by
   rcases hi with rfl|rfl
   ·exact absurd hu (Nat.lt_irrefl _)
   ·exact⟨_,by simpa[zb2,Ne.symm hidn]using hb⟩)
  (fun i bd' hi hb=>by
   rcases hi with rfl|rfl
   ·simp only[zb2,if_true,oI]at hb
    subst hb
    exact⟨Nat.lt_succ_self _,fun b hb=>by have:=Bind.has_nil hb;simp at this⟩
   ·have hb' : β i=some bd':=by simpa[zb2,Ne.symm hidn]using hb
    refine⟨Nat.lt_succ_of_lt (C.m.used _ _ hb'),fun b hbb=>?_⟩
    obtain⟨p1,p2,p3⟩:=C.m.off _ _ _ hb' hbb
    exact⟨p2,p1,.inr ⟨i,bd',.inr rfl,hb',hbb⟩⟩)
  (fun i j' bi bj b hi hj' hbi hbj h1 h2=>by
   rcases hi with rfl|rfl<;>rcases hj' with rfl|rfl
   ·rfl
   ·simp only[zb2,if_true,oI]at hbi;subst hbi;have:=Bind.has_nil h1;simp at this
   ·simp only[zb2,if_true,oI]at hbj;subst hbj;have:=Bind.has_nil h2;simp at this
   ·rfl)
  (fun E i hi _=>by
   rcases hi with rfl|rfl
   ·refine⟨⟨.slice none 0 0,none,0,sz,[]⟩,by simp[zb2],?_⟩
    simp only[zan,if_true,ChOk]
    simp
   ·refine⟨bd0,by simpa[zb2,Ne.symm hidn]using hb1,?_⟩
    have hb2':=ChOk.mono E (fun g _=>rfl) hb2
    rw[hc]at hb2'
    simp only[zan,if_true,Ne.symm hidn,if_false]
    obtain⟨q1,q2,g,vs,q3,q4,q5,q6,q7⟩:=hb2'
    refine⟨by rw[List.length_set];exact q1,q2,g,vs,q3,q4,q5,RelL.setAt j q6 (fun u hu=>?_),q7⟩
    obtain⟨u',hu',hr⟩:=q6.at j _ hj
    rw[hu]at hu';cases hu'
    rw[relC]at hr
    simp only[RelA]
    rw[hr.1]
    refine⟨Nat.lt_succ_self _,rfl,fun bd hb=>?_⟩
    simp only[zb2,if_true,oI]at hb
    subst hb;rfl)
 refine⟨F,zb2 β s.n (some ⟨.slice none 0 0,none,0,sz,[]⟩),fun t'=>RelA.mono E _ _ (C.t t'),M,C.nt,C.d,C.f,C.g,fun i bd' hi hb=>?_,Nat.le_succ_of_le C.k⟩
 refine C.e i bd' hi ?_
 have:s.n≠i:=by have:=C.k;omega
 simpa[zb2,this]using hb
theorem To.cutC {k:Nat} {s:St} (bid j id l e sz tt:Nat) (cs:List AV) (xs:List (List PV)) (hc:zan s.h bid = .blk tt cs) (hj:cs[j]? = some (.view id 0 l)) (hr:zan s.h id = .row e sz xs) (hl:l≤xs.length) :
 ToK k s ⟨s.t,(s.n,.row e sz (xs.take l))::(id,.dead)::(bid,.blk tt (cs.set j (.own s.n)))::s.h,s.n+1⟩:=by
 intro H F β a w hk C
 obtain⟨bd0,hb1,hb2⟩:=C.m.ch bid (by rw[hc];simp)
 obtain⟨bd1,hr1,hr2⟩:=C.m.ch id (by rw[hr];simp)
 have hbn:bid≠s.n:=fun h=>absurd (C.m.used _ _ hb1) (by rw[h];exact Nat.lt_irrefl _)
 have hin:id≠s.n:=fun h=>absurd (C.m.used _ _ hr1) (by rw[h];exact Nat.lt_irrefl _)
 have hbi:bid≠id:=fun h=>by rw[h,hr]at hc;simp at hc
 have hb2':=hb2
 rw[hc]at hb2'
 obtain⟨q1,q2,g0,vs,q3,q4,q5,q6,q7⟩:=hb2'
 obtain⟨u,hu,hv⟩:=q6.at j _ hj
 simp only[RelA]at hv
 obtain⟨_,hone,hv⟩:=hv
 obtain⟨va,vc,rfl,hvl,hvc,hvm,hvg,hvn⟩:=hv bd1 hr1
 obtain⟨vn,hvn⟩:=hvn trivial
 have hr3:=hr2
 rw[hr]at hr3
 obtain⟨p1,p2,p3,p4⟩:=hr3
 have nb:∃b,(⟨.slice va l vc,b,l,sz,[]⟩:Bind).b=bd1.b∧((b=none∧l=0∧(Value.slice va l vc) = .slice none 0 0)∨∃g cur,b=some g∧va=some ⟨g,0,none⟩∧w.heap[g]? = some (.cells cur e (0,0))∧l≤vc∧vc≤maxLen∧cur.size=vc*sz∧RelE w F g sz 0 (xs.take l)):=by
  refine⟨bd1.b,rfl,?_⟩
  rcases p4 with ⟨h1,h2,h3⟩|⟨g,cap,cur,h1,h2,h3,h4,h5,h6,h7⟩
  ·rw[h3]at hvn
   simp only[Value.slice.injEq]at hvn
   obtain⟨rfl,_,rfl⟩:=hvn
   have:l=0:=by subst h2;simpa using hl
   subst this
   exact .inl ⟨h1,rfl,rfl⟩
  ·rw[h2]at hvn
   simp only[Value.slice.injEq]at hvn
   obtain⟨rfl,_,rfl⟩:=hvn
   refine .inr ⟨g,cur,h1,rfl,h3,hvc,hvm,h6,?_⟩
   refine RelE.of fun i cs' hi=>?_
   rw[List.getElem?_take]at hi
   split at hi
   ·exact RelE.at h7 i cs' hi
   ·simp at hi
 obtain⟨nbb,hnb,hnc⟩:=nb
 obtain⟨M,E⟩:=C.m.step (w':=w) (h':=zan ((s.n,.row e sz (xs.take l))::(id,.dead)::(bid,.blk tt (cs.set j (.own s.n)))::s.h)) (β':=zb2 (zb2 β id none) s.n (some ⟨.slice va l vc,nbb,l,sz,[]⟩)) (F':=F) (U':=(· < s.n+1)) (fun i=>i=s.n∨i=id∨i=bid)
  (fun i hi=>by simp only[not_or]at hi;simp[zb2,Ne.symm hi.1,Ne.symm hi.2.1]) (fun i hi=>by simp only[not_or]at hi;simp[zan,Ne.symm hi.1,Ne.symm hi.2.1,Ne.symm hi.2.2]) rfl rfl rfl (Nat.le_refl _) (fun _ _ _=>rfl) (fun i hi=>Nat.lt_succ_of_lt hi) (fun b hb=>hb)
  (fun b hb=>⟨C.m.fin b hb,.inl hb⟩)
  (fun i bd' hi hu hb=>by
   rcases hi with rfl|rfl|rfl
   ·exact absurd hu (Nat.lt_irrefl _)
   ·simp[zb2,Ne.symm hin]at hb
   ·exact⟨_,by simpa[zb2,Ne.symm hbn,Ne.symm hbi]using hb⟩)
  (fun i bd' hi hb=>by
   rcases hi with rfl|rfl|rfl
   ·simp only[zb2,if_true,oI]at hb
    subst hb
    refine⟨Nat.lt_succ_self _,fun b hbb=>?_⟩
    have hbb':bd1.b=some b:=by rw[←hnb];exact Bind.has_nil hbb
    obtain⟨r1,r2,r3⟩:=C.m.off _ _ _ hr1 (.inl hbb')
    exact⟨r2,r1,.inr ⟨id,bd1,.inr (.inl rfl),hr1,.inl hbb'⟩⟩
   ·simp[zb2,Ne.symm hin]at hb
   ·have hb' : β i=some bd':=by simpa[zb2,Ne.symm hbn,Ne.symm hbi]using hb
    refine⟨Nat.lt_succ_of_lt (C.m.used _ _ hb'),fun b hbb=>?_⟩
    obtain⟨p1,p2,p3⟩:=C.m.off _ _ _ hb' hbb
    exact⟨p2,p1,.inr ⟨i,bd',.inr (.inr rfl),hb',hbb⟩⟩)
  (fun i j' bi bj b hi hj' hbi2 hbj h1 h2=>by
   have old:∀i' bd',i'=bid→(zb2 (zb2 β id none) s.n (some ⟨.slice va l vc,nbb,l,sz,[]⟩)) i'=some bd' → β bid=some bd':=by
    intro i' bd' h hb;subst h;simpa[zb2,Ne.symm hbn,Ne.symm hbi]using hb
   rcases hi with rfl|rfl|rfl<;>rcases hj' with rfl|rfl|rfl
   ·rfl
   ·simp[zb2,Ne.symm hin]at hbj
   ·simp only[zb2,if_true,oI]at hbi2;subst hbi2
    have:=C.m.dis id j' bd1 bj b hr1 (old _ _ rfl hbj) (.inl (by rw[←hnb];exact Bind.has_nil h1)) h2
    exact absurd this.symm hbi
   ·simp[zb2,Ne.symm hin]at hbi2
   ·rfl
   ·simp[zb2,Ne.symm hin]at hbi2
   ·simp only[zb2,if_true,oI]at hbj;subst hbj
    have:=C.m.dis i id bi bd1 b (old _ _ rfl hbi2) hr1 h1 (.inl (by rw[←hnb];exact Bind.has_nil h2))
    exact absurd this hbi
   ·simp[zb2,Ne.symm hin]at hbj
   ·rfl)
  (fun E i hi hd=>by
   rcases hi with rfl|rfl|rfl
   ·refine⟨⟨.slice va l vc,nbb,l,sz,[]⟩,by simp[zb2],?_⟩
    simp only[zan,if_true,ChOk]
    refine⟨⟨trivial,trivial⟩,by rw[List.length_take];omega,fun cs' hcs=>p3 cs' (List.mem_of_mem_take hcs),?_⟩
    rcases hnc with ⟨h1,h2,h3⟩|⟨g,cur,h1,h2,h3,h4,h5,h6,h7⟩
    ·exact .inl ⟨h1,by rw[h2];rfl,h3⟩
    ·refine .inr ⟨g,vc,cur,h1,?_,h3,?_,h5,h6,h7⟩
     ·rw[h2,List.length_take,Nat.min_eq_left hl]
     ·rw[List.length_take,Nat.min_eq_left hl];exact h4
   ·simp[zan,Ne.symm hin]at hd
   ·refine⟨bd0,by simpa[zb2,Ne.symm hbn,Ne.symm hbi]using hb1,?_⟩
    have hb3:=ChOk.mono E (fun g _=>rfl) hb2
    rw[hc]at hb3
    simp only[zan,if_true,Ne.symm hbn,Ne.symm hbi,if_false]
    obtain⟨q1,q2,g,vs',q3',q4,q5',q6',q7⟩:=hb3
    have hg:g=g0:=by rw[q3]at q3';exact(Option.some.inj q3').symm
    subst hg
    have hvs:vs'=vs:=by rw[q5]at q5';simpa using q5'.symm
    subst hvs
    refine⟨by rw[List.length_set];exact q1,q2,g,vs',q3',q4,q5',RelL.setAt j q6' (fun u hu2=>?_),q7⟩
    rw[hu]at hu2
    obtain rfl:=Option.some.inj hu2
    simp only[RelA]
    refine⟨Nat.lt_succ_self _,rfl,fun bd hb=>?_⟩
    simp only[zb2,if_true,oI]at hb
    subst hb;rfl)
 refine⟨F,_,fun t'=>RelA.mono E _ _ (C.t t'),M,C.nt,C.d,C.f,C.g,fun i bd' hi hb=>?_,Nat.le_succ_of_le C.k⟩
 have h1:s.n≠i:=by have:=C.k;omega
 by_cases h2:id=i
 ·subst h2;simp[zb2,h1]at hb
 ·exact C.e i bd' hi (by simpa[zb2,h1,h2]using hb)
theorem To.moveC {k:Nat} {s:St} (bid j id e sz tt:Nat) (cs:List AV) (xs:List (List PV)) (hc:zan s.h bid = .blk tt cs) (hj:cs[j]? = some (.own id)) (hr:zan s.h id = .row e sz xs) :
 ToK k s ⟨s.t,(s.n,.row e sz xs)::(id,.dead)::(bid,.blk tt (cs.set j (.own s.n)))::s.h,s.n+1⟩:=by
 intro H F β a w hk C
 obtain⟨bd0,hb1,hb2⟩:=C.m.ch bid (by rw[hc];simp)
 obtain⟨bd1,hr1,hr2⟩:=C.m.ch id (by rw[hr];simp)
 have hbn:bid≠s.n:=fun h=>absurd (C.m.used _ _ hb1) (by rw[h];exact Nat.lt_irrefl _)
 have hin:id≠s.n:=fun h=>absurd (C.m.used _ _ hr1) (by rw[h];exact Nat.lt_irrefl _)
 have hbi:bid≠id:=fun h=>by rw[h,hr]at hc;simp at hc
 have hb2':=hb2
 rw[hc]at hb2'
 obtain⟨q1,q2,g0,vs,q3,q4,q5,q6,q7⟩:=hb2'
 obtain⟨u,hu,hv⟩:=q6.at j _ hj
 simp only[RelA]at hv
 obtain⟨_,hone,hv⟩:=hv
 obtain rfl:=hv bd1 hr1
 obtain⟨M,E⟩:=C.m.step (w':=w) (h':=zan ((s.n,.row e sz xs)::(id,.dead)::(bid,.blk tt (cs.set j (.own s.n)))::s.h)) (β':=zb2 (zb2 β id none) s.n (some bd1)) (F':=F) (U':=(· < s.n+1)) (fun i=>i=s.n∨i=id∨i=bid)
  (fun i hi=>by simp only[not_or]at hi;simp[zb2,Ne.symm hi.1,Ne.symm hi.2.1]) (fun i hi=>by simp only[not_or]at hi;simp[zan,Ne.symm hi.1,Ne.symm hi.2.1,Ne.symm hi.2.2]) rfl rfl rfl (Nat.le_refl _) (fun _ _ _=>rfl) (fun i hi=>Nat.lt_succ_of_lt hi) (fun b hb=>hb)
  (fun b hb=>⟨C.m.fin b hb,.inl hb⟩)
  (fun i bd' hi hu hb=>by
   rcases hi with rfl|rfl|rfl
   ·exact absurd hu (Nat.lt_irrefl _)
   ·simp[zb2,Ne.symm hin]at hb
   ·exact⟨_,by simpa[zb2,Ne.symm hbn,Ne.symm hbi]using hb⟩)
  (fun i bd' hi hb=>by
   rcases hi with rfl|rfl|rfl
   ·simp only[zb2,if_true,oI]at hb
    subst hb
    refine⟨Nat.lt_succ_self _,fun b hbb=>?_⟩
    obtain⟨r1,r2,r3⟩:=C.m.off _ _ _ hr1 hbb
    exact⟨r2,r1,.inr ⟨id,bd1,.inr (.inl rfl),hr1,hbb⟩⟩
   ·simp[zb2,Ne.symm hin]at hb
   ·have hb' : β i=some bd':=by simpa[zb2,Ne.symm hbn,Ne.symm hbi]using hb
    refine⟨Nat.lt_succ_of_lt (C.m.used _ _ hb'),fun b hbb=>?_⟩
    obtain⟨p1,p2,p3⟩:=C.m.off _ _ _ hb' hbb
    exact⟨p2,p1,.inr ⟨i,bd',.inr (.inr rfl),hb',hbb⟩⟩)
  (fun i j' bi bj b hi hj' hbi2 hbj h1 h2=>by
   have old:∀i' bd',i'=bid→(zb2 (zb2 β id none) s.n (some bd1)) i'=some bd' → β bid=some bd':=by
    intro i' bd' h hb;subst h;simpa[zb2,Ne.symm hbn,Ne.symm hbi]using hb
   rcases hi with rfl|rfl|rfl<;>rcases hj' with rfl|rfl|rfl
   ·rfl
   ·simp[zb2,Ne.symm hin]at hbj
   ·simp only[zb2,if_true,oI]at hbi2;subst hbi2
    have:=C.m.dis id j' bd1 bj b hr1 (old _ _ rfl hbj) h1 h2
    exact absurd this.symm hbi
   ·simp[zb2,Ne.symm hin]at hbi2
   ·rfl
   ·simp[zb2,Ne.symm hin]at hbi2
   ·simp only[zb2,if_true,oI]at hbj;subst hbj
    have:=C.m.dis i id bi bd1 b (old _ _ rfl hbi2) hr1 h1 h2
    exact absurd this hbi
   ·simp[zb2,Ne.symm hin]at hbj
   ·rfl)
  (fun E i hi hd=>by
   rcases hi with rfl|rfl|rfl
   ·refine⟨bd1,by simp[zb2],?_⟩
    have hr3:=ChOk.mono E (fun g _=>rfl) hr2
    rw[hr]at hr3
    simp only[zan,if_true]
    exact hr3
   ·simp[zan,Ne.symm hin]at hd
   ·refine⟨bd0,by simpa[zb2,Ne.symm hbn,Ne.symm hbi]using hb1,?_⟩
    have hb3:=ChOk.mono E (fun g _=>rfl) hb2
    rw[hc]at hb3
    simp only[zan,if_true,Ne.symm hbn,Ne.symm hbi,if_false]
    obtain⟨q1,q2,g,vs',q3',q4,q5',q6',q7⟩:=hb3
    have hg:g=g0:=by rw[q3]at q3';exact(Option.some.inj q3').symm
    subst hg
    have hvs:vs'=vs:=by rw[q5]at q5';simpa using q5'.symm
    subst hvs
    refine⟨by rw[List.length_set];exact q1,q2,g,vs',q3',q4,q5',RelL.setAt j q6' (fun u hu2=>?_),q7⟩
    rw[hu]at hu2
    obtain rfl:=Option.some.inj hu2
    simp only[RelA]
    refine⟨Nat.lt_succ_self _,hone,fun bd hb=>?_⟩
    simp only[zb2,if_true,oI]at hb
    subst hb;rfl)
 refine⟨F,_,fun t'=>RelA.mono E _ _ (C.t t'),M,C.nt,C.d,C.f,C.g,fun i bd' hi hb=>?_,Nat.le_succ_of_le C.k⟩
 have h1:s.n≠i:=by have:=C.k;omega
 by_cases h2:id=i
 ·subst h2;simp[zb2,h1]at hb
 ·exact C.e i bd' hi (by simpa[zb2,h1,h2]using hb)
def yog (ops:Array Oper) (n:Nat) (K:St→Prop) (acc:List (List Nat × List Nat)) (s':St):Prop:=z0s ops acc=true∧K ⟨s'.t,s'.h,n+4*ops.size⟩
theorem zdc {P:Program} {nt:Nat} {ops:Array Oper} {K:St→Prop} {t:List (Nat × AV)} {h:List (Nat × Chunk)} {n:Nat} (ds:List (Option Tmp)) (hds:ops.toList.map (fun o:Oper=>o.dst)=ds)
 (G:∀(O:Array Oper) (l:List Oper) (R:List (List Nat × List Nat)→St→Prop),l=ops.toList→(∀j:Nat,(O[j]?).bind (fun o:Oper=>o.dst)=(ds[j]?).bind id)→R=yog ops n K→zpu P nt O n 0 l [] R ⟨t,h,n⟩):zad P nt ops K ⟨t,h,n⟩:=by
 refine G ops ops.toList _ rfl (fun j=>?_) rfl
 rw[←hds,List.getElem?_map,Array.getElem?_toList]
 cases ops[j]? <;> rfl
theorem zby {P:Program} {nt:Nat} {O:Array Oper} {n i:Nat} {o:Oper} {r0:List Oper} {acc:List (List Nat × List Nat)} {R:List (List Nat × List Nat)→St→Prop} {s:St}
 (G:∀r,r=r0→zpu P nt O n i (o::r) acc R s):zpu P nt O n i (o::r0) acc R s:=G r0 rfl
theorem zv9 {P:Program} {nt:Nat} {O:Array Oper} {n i:Nat} {acc:List (List Nat × List Nat)} {R:List (List Nat × List Nat)→St→Prop} {t:List (Nat × AV)} {h:List (Nat × Chunk)} {m:Nat} (G:R acc ⟨t,h,m⟩):zpu P nt O n i [] acc R ⟨t,h,m⟩:=G
theorem zv8 {ops:Array Oper} {n:Nat} {K:St→Prop} {acc:List (List Nat × List Nat)} {t:List (Nat × AV)} {h:List (Nat × Chunk)} {m:Nat} (G1:z0s ops acc=true) (G2:K ⟨t,h,n+4*ops.size⟩):yog ops n K acc ⟨t,h,m⟩:=⟨G1,G2⟩
theorem Spec.hand {P:Program} {f:FuncId} {args args':List AV} {hs hs1 hs1':List Chunk} {r:AV} (k:Nat) (S:Spec P f args' hs1 r hs1') (hk:k≤hs.length) (hk1:hs1'.length=k) (hw:WkL (cvL (List.range k) (nth hs) args) args') (hh:hs1=(List.range k).map fun id=>cvC (List.range k) (nth hs) (nth hs id)) :
 Spec P f args hs r (hs1'++List.replicate (hs.length-k) .dead):=by
 obtain⟨S0,_,S⟩:=S
 refine⟨S0,by simp;omega,fun w F β vs M hv=>?_⟩
 have hl1:hs1.length=k:=by rw[hh];simp
 have M1:=(zvw M (hT:=nth hs) (fun _ _=>rfl) (List.range k) List.nodup_range).here
 have hv1:=hw.run (zf8 M (hT:=nth hs) (fun _ _=>rfl) (List.range k) args vs hv)
 rw[←hh]at M1
 rw[List.length_range]at M1 hv1
 rw[hl1]at S
 have sel:∀ {i:Nat} {bd:Bind},zkd (List.range k) β i=some bd→i<k ∧ β i=some bd:=by
  intro i bd h
  obtain⟨id,h1,h2⟩:=zn0 h
  have hik:i<k:=by have:=(List.getElem?_eq_some_iff.1 h1).1;simpa using this
  rw[List.getElem?_range hik]at h1
  obtain rfl:=Option.some.inj h1
  exact⟨hik,h2⟩
 have hin:∀b,inB (zkd (List.range k) β) b→inB β b:=by
  rintro b ⟨i,bd,h1,h2⟩
  exact⟨i,bd,(sel h1).2,h2⟩
 refine(S w _ _ vs M1 hv1).mono ?_
 rintro e w' ⟨v,F',β',rfl,M2,hr,hF,hF',hβ⟩
 rw[hk1]at M2 hr
 have E:Ext (· < k) F' β' w' (· < (hs1'++List.replicate (hs.length-k) Chunk.dead).length) F' (fun i=>if i<k then β' i else none) w' :=
  ⟨fun i hi=>by simp only[List.length_append,List.length_replicate];omega,fun b hb=>⟨hb,rfl⟩,fun i bd hi hb=>⟨_,by simpa[hi]using hb⟩⟩
 have low:∀ {i:Nat} {bd:Bind},(if i<k then β' i else none)=some bd→i<k ∧ β' i=some bd:=by
  intro i bd h
  by_cases hi:i<k
  ·rw[if_pos hi]at h;exact⟨hi,h⟩
  ·rw[if_neg hi]at h;simp at h
 refine⟨v,F',fun i=>if i<k then β' i else none,rfl,⟨M2.size,M2.os,M2.tape,M2.output,fun b hb hn=>M2.frame b hb (fun h=>hn (hin b h)),M2.fin,fun i bd hb=>?_,fun i hd=>?_,fun i j bi bj b hi hj h1 h2=>M2.dis i j bi bj b (low hi).2 (low hj).2 h1 h2,fun i bd b hb hbb=>?_,M2.gl⟩,RelA.mono E _ _ hr,fun b hb=>hF b (.inl hb),fun b hb=>?_,fun i bd hi hb=>?_⟩
 ·exact E.u i (low hb).1
 ·have hik:i<k:=by
   rcases Nat.lt_or_ge i k with h|h
   ·exact h
   ·exfalso
    apply hd
    unfold nth
    rw[List.getD_eq_getElem?_getD,List.getElem?_append_right (by omega),List.getElem?_replicate]
    split<;>rfl
  have e0:nth (hs1'++List.replicate (hs.length-k) Chunk.dead) i=nth hs1' i:=by
   unfold nth
   rw[List.getD_eq_getElem?_getD,List.getElem?_append_left (by omega),List.getD_eq_getElem?_getD]
  rw[e0]at hd ⊢
  obtain⟨bd,h1,h2⟩:=M2.ch i hd
  exact⟨bd,by rw[if_pos hik];exact h1,ChOk.mono E (fun _ _=>rfl) h2⟩
 ·obtain⟨k1,k2,k3⟩:=M2.off i bd b (low hb).2 hbb
  exact⟨k1,k2,k3.imp id (hin b)⟩
 ·rcases hF' b hb with h1|h1|h1
  ·rcases h1 with h1|⟨id,bd,_,_,h2,h3⟩
   ·exact .inl h1
   ·exact .inr (.inr ⟨id,bd,h2,.inl h3⟩)
  ·exact .inr (.inl h1)
  ·exact .inr (.inr (hin b h1))
 ·obtain⟨h1,h2⟩:=low hb
  obtain⟨bs,h3⟩:=hβ i bd h1 h2
  exact⟨bs,(sel h3).2⟩
theorem zxb (Z:List Nat) (h:Nat→Chunk):∀(l:List (Nat × AV)) (t:Nat),look (l.map fun p=>(p.1,fz Z h p.2)) t=fz Z h (look l t)
 | [],t=>by simp only[List.map_nil,look,fz]
 | (k,x)::r,t=>by
  simp only[List.map_cons,look]
  by_cases e:k=t
  ·rw[if_pos e,if_pos e]
  ·rw[if_neg e,if_neg e];exact zxb Z h r t
theorem To.frz {k:Nat} {s:St} (Z:List Nat):ToK k s ⟨s.t.map fun p=>(p.1,fz Z (zan s.h) p.2),zf7 Z++s.h,s.n⟩:=by
 intro H F β a w hk C
 have M:=z7k C.m Z
 have e:zan (zf7 Z++s.h)=fzH Z (zan s.h):=by
  rw[←zj4,zj5]
 refine⟨fzF Z F β,fzB Z β,fun t=>?_,by rw[e];exact M,C.nt,C.d.more fun _ hb => .inl hb,fun b hb => .inl (C.f b hb),fun b hb=>?_,fun i bd hi hb=>C.e i bd hi (zd2 hb).2,C.k⟩
 ·simp only[zxb]
  exact zqy C.m (fun _ _=>rfl) Z _ _ (C.t t)
 ·rcases hb with h1|⟨id,bd,_,h2,h3⟩
  ·exact C.g b h1
  ·exact .inr (C.m.off id bd b h2 (.inl h3)).2.2
def ypn (v:Value) (_:Value):Ending := .panicked [{ v:=v,recovered:=false }]
def z8s (P:Program) (f:FuncId) (args:List AV) (hs:List Chunk) (v:Value) (hs':List Chunk):Prop:=yho P f args hs .undef hs' (ypn v)
theorem Wk.cu (p:PV):Wk (.c p) (.c .undef):=fun _ _ _ _ v h=>by
 simp only[RelA]at h ⊢
 rw[show RelP _ _ PV.undef v=(v.oneCell'=true)from by simp only[RelP]];exact h.one
inductive Out where
 | ret (r:AV) (hs:List Chunk)
 | pan (v:Value) (hs:List Chunk)
def zc6 (P:Program) (f:FuncId) (args:List AV) (hs:List Chunk):Out→Prop
 | .ret r hs'=>Spec P f args hs r hs'
 | .pan v hs'=>z8s P f args hs v hs'
mutual
/-- A value that is wholly known. -/
def zrg:AV→Option Value
 | .c (.v x)=>some x
 | .agg xs=>match yhv xs with
  | some vs=>some (.agg vs.toArray)
  | none=>none
 | .ifc t x=>match zrg x with
  | some v=>some (.iface t v)
  | none=>none
 | _=>none
def yhv:List AV→Option (List Value)
 | []=>some []
 | x::r=>match zrg x with
  | some v=>match yhv r with
   | some vs=>some (v::vs)
   | none=>none
  | none=>none
end
mutual
theorem zrf {U F:Nat→Prop} {w:World} {β : Nat→Option Bind} : ∀(x:AV) (v u:Value),zrg x=some v→RelA U w F β x u→u=v
 | .c (.v y),v,u,h,k=>by
  simp only[zrg,oI]at h
  simp only[RelA,RelP]at k
  rw[k.1,h]
 | .c .undef,v,u,h,k=>by simp[zrg]at h
 | .c (.sl _ _),v,u,h,k=>by simp[zrg]at h
 | .agg xs,v,u,h,k=>by
  unfold zrg at h
  split at h
  ·rename_i vs hvs
   simp only[oI]at h
   simp only[RelA]at k
   obtain⟨us,rfl,k1,_⟩:=k
   have:=zyi xs vs _ hvs k1
   rw[←h,←this]
  ·simp at h
 | .ifc t x,v,u,h,k=>by
  unfold zrg at h
  split at h
  ·rename_i y hy
   simp only[oI]at h
   simp only[RelA]at k
   obtain⟨z,rfl,k1⟩:=k
   rw[zrf x y z hy k1,h]
  ·simp at h
 | .undef,v,u,h,k=>by simp[zrg]at h
 | .tup _,v,u,h,k=>by simp[zrg]at h
 | .own _,v,u,h,k=>by simp[zrg]at h
 | .view _ _ _,v,u,h,k=>by simp[zrg]at h
 | .ptr _ _ _,v,u,h,k=>by simp[zrg]at h
 | .fel _ _ _ _,v,u,h,k=>by simp[zrg]at h
 | .clo _ _ _,v,u,h,k=>by simp[zrg]at h
 | .map _,v,u,h,k=>by simp[zrg]at h
 | .opt _ _,v,u,h,k=>by simp[zrg]at h
theorem zyi {U F:Nat→Prop} {w:World} {β : Nat→Option Bind} : ∀(xs:List AV) (vs us:List Value),yhv xs=some vs→RelL U w F β xs us→us=vs
 | [],vs,us,h,k=>by
  simp only[yhv,oI]at h
  simp only[RelL]at k
  rw[k,h]
 | x::r,vs,us,h,k=>by
  simp only[RelL]at k
  obtain⟨u,us',rfl,k1,k2⟩:=k
  unfold yhv at h
  split at h
  ·rename_i v hv
   split at h
   ·rename_i vs' hvs
    simp only[oI]at h
    rw[zrf x v u hv k1,zyi r vs' us' hvs k2,h]
   ·simp at h
  ·simp at h
end
def ybl (Z:List Nat) (h:Nat→Chunk):Chunk→Chunk
 | .blk t cs => .blk t (fzL Z h cs)
 | c=>c
theorem zqt (Z:List Nat) (h:Nat→Chunk):∀(l:List (Nat × Chunk)) (i:Nat),zan (l.map fun p=>(p.1,ybl Z h p.2)) i=ybl Z h (zan l i)
 | [],i=>rfl
 | (k,c)::r,i=>by
  simp only[List.map_cons,zan]
  by_cases e:k=i
  ·rw[if_pos e,if_pos e]
  ·rw[if_neg e,if_neg e];exact zqt Z h r i
theorem ygn {W:World} {N U F:Nat→Prop} {β : Nat→Option Bind} {h:Nat→Chunk} {w:World} (M:MemOk W N U F β h w) (Z:List Nat):MemOk W N U (fzF Z F β) (fzB Z β) (fzH Z fun i=>ybl Z h (h i)) w:=by
 have M1:=z7k M Z
 refine⟨M1.size,M1.os,M1.tape,M1.output,M1.frame,M1.fin,M1.used,fun id hd=>?_,M1.dis,M1.off,M1.gl⟩
 have hz:inZ Z id=false:=by
  cases hz:inZ Z id with
  | false=>rfl
  | true=>unfold fzH at hd;rw[hz]at hd;exact absurd rfl hd
 have e1:fzH Z (fun i=>ybl Z h (h i)) id=ybl Z h (h id):=by unfold fzH;rw[hz]
 have e2:fzH Z h id=h id:=by unfold fzH;rw[hz]
 rw[e1]at hd ⊢
 have hn:h id ≠ .dead:=fun e=>by rw[e]at hd;exact hd rfl
 obtain⟨bd,hb,hk⟩:=M1.ch id (by rw[e2];exact hn)
 refine⟨bd,hb,?_⟩
 rw[e2]at hk
 cases hc:h id with
 | blk t cs =>
  rw[hc]at hk
  obtain⟨bd0,hb0,hk0⟩:=M.ch id hn
  rw[hc]at hk0
  obtain⟨q1,q2,g,vs,q3,q4,q5,q6,q7⟩:=hk0
  have:bd=bd0:=by
   unfold fzB at hb;rw[hz]at hb
   rw[hb0]at hb;exact(Option.some.inj hb).symm
  subst this
  have hr:=zlt M (fun _ _=>rfl) Z cs vs.toList q6
  have hl:(fzL Z h cs).length=cs.length:=by rw[←hr.len,q6.len]
  exact⟨⟨by rw[hl];exact q1.1,q1.2⟩,q2,g,vs,q3,q4,q5,hr,q7⟩
 | dead=>exact absurd hc hn
 | row e sz xs=>rw[hc]at hk;exact hk
 | mp x y z=>rw[hc]at hk;exact hk
 | keep e sz xs=>rw[hc]at hk;exact hk
 | nst x1 x2 x3 x4 x5 x6 x7 x8=>rw[hc]at hk;exact hk
theorem To.frzB {k:Nat} {s:St} (Z:List Nat):ToK k s ⟨s.t.map fun p=>(p.1,fz Z (zan s.h) p.2),zf7 Z++s.h.map (fun p=>(p.1,ybl Z (zan s.h) p.2)),s.n⟩:=by
 intro H F β a w hk C
 have M:=ygn C.m Z
 have e:zan (zf7 Z++s.h.map (fun p=>(p.1,ybl Z (zan s.h) p.2)))=fzH Z (fun i=>ybl Z (zan s.h) (zan s.h i)):=by
  rw[←zj4,zj5]
  congr 1
  funext i;exact zqt Z _ _ i
 refine⟨fzF Z F β,fzB Z β,fun t=>?_,by rw[e];exact M,C.nt,C.d.more fun _ hb => .inl hb,fun b hb => .inl (C.f b hb),fun b hb=>?_,fun i bd hi hb=>C.e i bd hi (zd2 hb).2,C.k⟩
 ·simp only[zxb]
  exact zqy C.m (fun _ _=>rfl) Z _ _ (C.t t)
 ·rcases hb with h1|⟨id,bd,_,h2,h3⟩
  ·exact C.g b h1
  ·exact .inr (C.m.off id bd b h2 (.inl h3)).2.2
def ykn (P:Program) (f:FuncId) (args:List AV) (h:Nat→Chunk) (m:Nat) (K:Value→List (Nat × Chunk)→Nat→Prop):Prop :=
 ∃(v:Value) (ids:List Nat) (args':List AV) (hs':List Chunk),ids.Nodup∧WkL (cvL ids noC args) args'∧(∀id∈ids,h id ≠ .dead)∧z8s P f args' (ids.map fun id=>cvC ids noC (h id)) v hs'∧K v (zts ids m 0 hs') (hs'.length-ids.length)
def ye2 (P:Program) (o:Oper) (R:Value→St→Prop):St→Prop
 | ⟨t,h,n⟩=>o.guard=none∧match o.op with
  | .call ⟨.value x,args,_⟩=>match zhi (look t) x with
   | .clo (.func fid) a b=>ykn P fid (a++args.toList.map (zhi (look t))++b) (zan h) n (fun v ups fr=>R v ⟨t,ups++h,n+fr⟩)
   | _=>False
  | .panic x=>match zhi (look t) x with
   | .ifc ty y=>match zrg y with
    | some v=>R (.iface ty v) ⟨t,h,n⟩
    | none=>False
   | _=>False
  | _=>False
def z84 (P:Program) (R:Value→St→Prop):Option Oper→St→Prop
 | some o,s=>ye2 P o R s
 | none,_=>False
def pnQ (Q:Exit→St→Prop) (v:Value) (s:St):Prop:=Q (.panic [{ v:=v,recovered:=false }]) s
def yhq (P:Program) (nt k:Nat) (ops:Array Oper) (Q:Exit→St→Prop) (s:St):Prop :=
 ∃s',ToK k s s'∧(ztm P nt ops ops.toList (Q .normal) s'∨∃i,ztm P nt ops (ops.toList.take i) (z84 P (pnQ Q) ops.toList[i]?) s')
def z1p (P:Program) (nt:Nat) (ops:Array Oper) (q:Option Oper) (Q:Exit→St→Prop):List Oper→St→Prop
 | [],⟨t,h,n⟩=>z84 P (pnQ Q) q ⟨t,h,n⟩
 | o::r,⟨t,h,n⟩=>z84 P (pnQ Q) q ⟨t,h,n⟩∧opW P nt ops o ⟨t,h,n⟩ (z1p P nt ops q Q r)
def zez (o:Oper) (f:Nat→Bool):Bool:=o.after.toList.any fun e=>Region.binds .any e&&f e.on
def ymw (ops:Array Oper) (p:Nat):Bool:=(List.range ops.size).all fun j=>match ops[j]? with
 | none=>false
 | some o=>if j=p then !zez o (fun _=>true)else if j<p then (j == 0)||zez o (fun i=>i == j-1)else zez o (fun i=>Nat.ble p i&&Nat.blt i j)
def ynx (P:Program) (nt:Nat) (ops:Array Oper) (Q:Exit→St→Prop) (s:St):Prop :=
 zad P nt ops (Q .normal) s∨∃p,p<ops.size∧ymw ops p=true∧z1p P nt ops ops.toList[p]? Q (ops.toList.take p) s
def pwp (P:Program) (nt k:Nat) (R:List Nat):Code→(Exit→St→Prop)→St→Prop
 | .skip,Q,⟨t,h,n⟩=>Q .normal ⟨t,h,n⟩
 | .label _,Q,⟨t,h,n⟩=>Q .normal ⟨t,h,n⟩
 | .region id ops false,Q,⟨t,h,n⟩=>match zjc R id with
  | true=>yhq P nt k ops Q ⟨t,h,n⟩
  | false=>ztm P nt ops ops.toList (Q .normal) ⟨t,h,n⟩
 | .region id ops true,Q,⟨t,h,n⟩=>match zjc R id with
  | true=>ynx P nt ops Q ⟨t,h,n⟩
  | false=>zad P nt ops (Q .normal) ⟨t,h,n⟩
 | .seq x y,Q,⟨t,h,n⟩=>pwp P nt k R x (yhw (pwp P nt k R y Q) Q) ⟨t,h,n⟩
 | .cond c x y,Q,⟨t,h,n⟩=>z2s k (zhi (look t) c) (pwp P nt k R x) (pwp P nt k R y) Q ⟨t,h,n⟩
 | .block id c,Q,⟨t,h,n⟩=>pwp P nt k R c (ydn id Q) ⟨t,h,n⟩
 | .loop c,Q,⟨t,h,n⟩=>yht k (pwp P nt k R c) Q ⟨t,h,n⟩
 | .exit id,Q,⟨t,h,n⟩=>Q (.exit id) ⟨t,h,n⟩
 | .scope c,Q,⟨t,h,n⟩=>pwp P nt k R c (ykw Q) ⟨t,h,n⟩
 | .ret,Q,⟨t,h,n⟩=>Q .ret ⟨t,h,n⟩
 | .goto _,_,_=>False
 | .rangeFunc g ps x y,Q,⟨t,h,n⟩=>z8t P nt k g ps x y Q ⟨t,h,n⟩
 | .refuse _,_,_=>False
section
variable {P : Program} {H : Hist} {s : St} {F : Nat → Prop} {β : Nat → Option Bind} {a : Act} {w : World}
theorem zoh (C:Conc H s F β a w) {o:Oper} {Q:Exit→St→Prop} (h:ye2 P o (pnQ Q) s) {next:Act→World→Prop} : o.guard=none∧o.wp P a w next (zix H Q):=by
 obtain⟨t,sh,n⟩:=s
 obtain⟨hg,h⟩:=h
 refine⟨hg,?_⟩
 split at h
 ·rename_i x args ts ho
  split at h
  ·rename_i fid p q hx
   obtain⟨v,ids,args',hs',h1,h2,h3,h4,h5⟩:=h
   have hg2:=C.G x
   rw[hx]at hg2
   simp only[RelA]at hg2
   obtain⟨fs,cs,hxv,g1,g2⟩:=hg2
   have hr:=g1.append (zf4 (g:=zhi (look t)) args.toList fun y _=>C.G y) |>.append g2
   unfold Oper.wp
   rw[Calls.exec h4.1 ho hxv]
   simp only[Oper.upon]
   have e1:(fs.toList++args.toList.map a.eval++cs.toList).toArray=fs++args.map a.eval++cs:=by
    apply Array.ext';simp
   have k2:=zmc C.m (fun _ _=>rfl) (m:=n) h1 h2 h3 h4 (fun i hi _ hu=>by simp only at hu;omega) hr
   rw[e1]at k2
   refine k2.mono ?_
   rintro e w' ⟨v0,rfl,S⟩
   obtain⟨F',β',C'⟩:=C.step S (d:=none) trivial
   refine⟨_,F',β',C',h5⟩
  ·exact h.elim
 ·rename_i x ho
  split at h
  ·rename_i ty y hx
   split at h
   ·rename_i v hv
    have hg2:=C.G x
    rw[hx]at hg2
    simp only[RelA]at hg2
    obtain⟨z,hz,g1⟩:=hg2
    have:=zrf y v z hv g1
    subst this
    unfold Oper.wp
    have he:(execOp a.eval o).run P w = .halt (.panic (.iface ty z)) w:=by
     simp only[execOp,ho,hz,Sem.run_bind];rfl
    rw[he]
    exact⟨_,F,β,C,h⟩
   ·exact h.elim
  ·exact h.elim
 ·exact h.elim
theorem zk5 {ops:Array Oper} {Q:Exit→St→Prop} : ∀(l:List Oper) (i:Nat) (s:St) (F:Nat→Prop) (β : Nat→Option Bind) (a:Act) (w:World),ztm P H.nt ops (l.take i) (z84 P (pnQ Q) l[i]?) s→Conc H s F β a w→wpList P ops (zix H Q) l a w
 | [],i,⟨t,h0,n⟩,F,β,a,w,h,C=>by
  simp only[List.take_nil,ztm,List.getElem?_nil,z84]at h
 | o::r,0,⟨t,h0,n⟩,F,β,a,w,h,C=>by
  simp only[List.take_zero,ztm,List.getElem?_cons_zero,z84]at h
  obtain⟨h1,h2⟩:=zoh C h (next:=wpList P ops (zix H Q) r)
  simp only[wpList]
  rw[if_pos (by simp[Region.wanted,h1])]
  exact .inl h2
 | o::r,i+1,⟨t,h0,n⟩,F,β,a,w,h,C=>by
  simp only[List.take_succ_cons,ztm,List.getElem?_cons_succ]at h
  exact zr1 C h fun s' F' β' a' w' hk C'=>zk5 r i s' F' β' a' w' hk C'
theorem zjz {o:Oper} {f:Nat→Bool} (h:zez o f=true):∃e∈o.after,Region.binds .any e=true∧f e.on=true:=by
 unfold zez at h
 rw[List.any_eq_true]at h
 obtain⟨e,he,h⟩:=h
 rw[bJ]at h
 exact⟨e,by simpa using he,h⟩
theorem zqh {nt:Nat} {ops:Array Oper} {q:Option Oper} {Q:Exit→St→Prop} {l:List Oper} {s:St} (h:z1p P nt ops q Q l s):z84 P (pnQ Q) q s:=by
 obtain⟨t,sh,n⟩:=s
 cases l with
 | nil=>exact h
 | cons o r=>exact h.1
theorem z5c {ops:Array Oper} {p:Nat} {Q:Exit→St→Prop} (hp:p<ops.size) (hok:ymw ops p=true):∀(m k:Nat) (listed:Array Bool) (s:St) (F:Nat→Prop) (β : Nat→Option Bind) (a:Act) (w:World),k+m=p→listed.size=ops.size→(∀i,i<ops.size→listed[i]? = some (decide (i<k))) →
 z1p P H.nt ops ops.toList[p]? Q ((ops.toList.take p).drop k) s→Conc H s F β a w→wpAny P .any ops (zix H Q) (ops.size-k) listed a w:=by
 have hj:∀j,j<ops.size→∃o,ops[j]? = some o∧(if j=p then !zez o (fun _=>true)else if j<p then (j == 0)||zez o (fun i=>i == j-1)else zez o (fun i=>Nat.ble p i&&Nat.blt i j))=true:=by
  intro j h
  have:=List.all_eq_true.1 hok j (by simpa using h)
  rw[Array.getElem?_eq_getElem h]at this
  exact⟨_,Array.getElem?_eq_getElem h,this⟩
 intro m
 induction m with
 | zero =>
  intro k listed s F β a w hk hsz hl h C
  obtain rfl:k=p:=by omega
  have hls:∀i,i<ops.size→i<listed.size:=fun i h=>by rw[hsz];exact h
  obtain⟨o,ho,hb⟩:=hj k hp
  rw[if_pos rfl,Bool.not_eq_true']at hb
  have hpm:k∈Region.ready .any ops listed:=mem_ready.2 ⟨by rw[Array.getD_eq_getD_getElem?,hl k hp];simp,o,ho,fun e he h2=>by
   have:zez o (fun _=>true)=true:=by unfold zez;rw[List.any_eq_true];exact⟨e,by simpa using he,by rw[h2];rfl⟩
   rw[hb]at this;simp at this⟩
  rw[show ops.size-k=(ops.size-k-1)+1 by omega]
  refine⟨fun hr=>by rw[hr]at hpm;simp at hpm,?_⟩
  intro i hi
  obtain⟨hun,oi,hoi,hpre⟩:=mem_ready.1 hi
  have hin:i<ops.size:=(Array.getElem?_eq_some_iff.1 hoi).1
  rw[Array.getD_eq_getD_getElem?,hl i hin]at hun
  simp at hun
  have hik:i=k:=by
   rcases Nat.lt_or_ge k i with hlt|hge
   ·obtain⟨o2,ho2,hb2⟩:=hj i hin
    rw[hoi]at ho2;cases ho2
    rw[if_neg (by omega),if_neg (by omega)]at hb2
    obtain⟨e,he,h1,h2⟩:=zjz hb2
    have:=hpre e he h1
    simp only[bJ]at h2
    have h3:=Nat.le_of_ble_eq_true h2.1
    have h4:e.on<i:=Nat.le_of_ble_eq_true h2.2
    rw[Array.getD_eq_getD_getElem?,hl e.on (by omega)]at this
    simp at this
    omega
   ·omega
  subst hik
  rw[hoi]at ho;cases ho
  have h':=zqh h
  rw[show ops.toList[i]? = some o by simpa using hoi]at h'
  unfold wpOp
  rw[hoi]
  obtain⟨h1,h2⟩:=zoh C h' (next:=wpAny P .any ops (zix H Q) (ops.size-i-1) (listed.setIfInBounds i true))
  simp only
  rw[if_pos (by simp[Region.wanted,h1])]
  exact .inl h2
 | succ m ih =>
  intro k listed s F β a w hk hsz hl h C
  obtain⟨o,ho,hb⟩:=hj p hp
  rw[if_pos rfl,Bool.not_eq_true']at hb
  have hpm:p∈Region.ready .any ops listed:=mem_ready.2 ⟨by rw[Array.getD_eq_getD_getElem?,hl p hp];simp;omega,o,ho,fun e he h2=>by
   have:zez o (fun _=>true)=true:=by unfold zez;rw[List.any_eq_true];exact⟨e,by simpa using he,by rw[h2];rfl⟩
   rw[hb]at this;simp at this⟩
  rw[show ops.size-k=(ops.size-(k+1))+1 by omega]
  refine⟨fun hr=>by rw[hr]at hpm;simp at hpm,?_⟩
  intro i hi
  obtain⟨hun,oi,hoi,hpre⟩:=mem_ready.1 hi
  have hin:i<ops.size:=(Array.getElem?_eq_some_iff.1 hoi).1
  rw[Array.getD_eq_getD_getElem?,hl i hin]at hun
  simp at hun
  have hik:i=k∨i=p:=by
   obtain⟨o2,ho2,hb2⟩:=hj i hin
   rw[hoi]at ho2;cases ho2
   by_cases h1:i=p
   ·exact .inr h1
   ·rw[if_neg h1]at hb2
    by_cases h2:i<p
    ·rw[if_pos h2,Bool.or_eq_true]at hb2
     rcases hb2 with h3|h3
     ·have:i=0:=by simpa using h3
      omega
     ·obtain⟨e,he,h4,h5⟩:=zjz h3
      have:=hpre e he h4
      have h5:e.on=i-1:=by simpa using h5
      rw[Array.getD_eq_getD_getElem?,hl e.on (by omega)]at this
      simp at this
      omega
    ·rw[if_neg h2]at hb2
     obtain⟨e,he,h4,h5⟩:=zjz hb2
     have:=hpre e he h4
     simp only[bJ]at h5
     have h6:=Nat.le_of_ble_eq_true h5.1
     have h7:e.on<i:=Nat.le_of_ble_eq_true h5.2
     rw[Array.getD_eq_getD_getElem?,hl e.on (by omega)]at this
     simp at this
     omega
  unfold wpOp
  rw[hoi]
  rcases hik with rfl|rfl
  ·have hlen:i<(ops.toList.take p).length:=by rw[List.length_take,Array.length_toList];omega
   rw[List.drop_eq_getElem_cons hlen]at h
   have hox:(ops.toList.take p)[i]=oi:=by
    rw[List.getElem_take]
    have:=Array.getElem?_eq_some_iff.1 hoi
    obtain⟨_,h2⟩:=this
    simpa using h2
   rw[hox]at h
   obtain⟨st,sh,sn⟩:=s
   refine zr1 C h.2 fun s' F' β' a' w' hk' C'=>ih (i+1) (listed.setIfInBounds i true) s' F' β' a' w' (by omega) (by simp[hsz]) (fun j hj'=>?_) hk' C'
   rw[Array.getElem?_setIfInBounds]
   by_cases hji:i=j
   ·subst hji
    rw[if_pos rfl,if_pos (by rw[hsz];exact hj')]
    simp
   ·rw[if_neg hji,hl j hj']
    simp;omega
  ·rw[hoi]at ho;cases ho
   have h':=zqh h
   rw[show ops.toList[i]? = some o by simpa using hoi]at h'
   obtain⟨h1,h2⟩:=zoh C h' (next:=wpAny P .any ops (zix H Q) (ops.size-(k+1)) (listed.setIfInBounds i true))
   simp only
   rw[if_pos (by simp[Region.wanted,h1])]
   exact .inl h2
theorem ynp (C:Conc H s F β a w):Conc H s F β a { w with drawn:=w.drawn+1 }:=by
 have E:Ext (· < s.n) F β w (· < s.n) F β { w with drawn:=w.drawn+1 }:=⟨fun x hx=>hx,fun b hb=>⟨hb,rfl⟩,fun _ _ _ h=>⟨_,h⟩⟩
 exact⟨fun t=>RelA.mono E _ _ (C.t t),C.m.drew (w':={ w with drawn:=w.drawn+1 }) rfl rfl rfl rfl,C.nt,C.d.mono fun b hb=>⟨hb,rfl⟩,C.f,C.g,C.e,C.k⟩
theorem yey (hmix:P.follows .mixedOrders=true) {R:List Nat} (hd:∀(ops:Array Oper) (Q:Exit→St→Prop) (s:St) (F:Nat→Prop) (β : Nat→Option Bind) (a:Act) (w:World) (id:Nat),zad P H.nt ops (Q .normal) s→Conc H s F β a w→(Code.region id ops true).wp P (zix H Q) a w) :
 ∀(c:Code) (Q:Exit→St→Prop) (s:St) (F:Nat→Prop) (β : Nat→Option Bind) (a:Act) (w:World),pwp P H.nt H.k R c Q s→Conc H s F β a w→c.wp P (zix H Q) a w:=by
 intro c
 induction c with
 | skip=>intro Q s F β a w h C;cases s;exact wp_skip ⟨_,F,β,C,h⟩
 | region id ops draw =>
  intro Q s F β a w h C
  cases s
  cases draw with
  | false =>
   simp only[pwp]at h
   split at h
   ·obtain⟨s2,hto,h⟩:=h
    obtain⟨F2,β2,C2⟩:=hto H F β a w rfl C
    rcases h with h|⟨i,h⟩
    ·exact wp_region_list (ziw ops.toList _ F2 β2 a w h C2)
    ·exact wp_region_list (zk5 ops.toList i _ F2 β2 a w h C2)
   ·exact wp_region_list (ziw ops.toList _ F β a w h C)
  | true =>
   simp only[pwp]at h
   split at h
   ·rcases h with h|⟨p,hp,hok,h⟩
    ·exact hd ops Q _ F β a w id h C
    ·refine wp_region_any hmix ?_
     have:=z5c (H:=H) hp hok p 0 (Array.replicate ops.size false) _ F β a _ (by omega) (by simp) (fun i hi=>by simp[hi]) h (ynp C)
     exact this
   ·exact hd ops Q _ F β a w id h C
 | seq x y ihx ihy =>
  intro Q s F β a w h C
  obtain⟨st,sh,sn⟩:=s
  simp only[pwp]at h
  refine wp_seq (wp_mono (ihx _ _ F β a w h C) ?_)
  rintro e a' w' ⟨s',F',β',C',hq⟩
  cases e with
  | normal=>exact ihy Q s' F' β' a' w' hq C'
  | _=>exact⟨s',F',β',C',hq⟩
 | cond c x y ihx ihy =>
  intro Q s F β a w h C
  obtain⟨st,sh,sn⟩:=s
  simp only[pwp]at h
  have one:∀(s2:St) (F2:Nat→Prop) (β2:Nat→Option Bind),Conc H s2 F2 β2 a w→∀Q':Exit→St→Prop,ztj (zhi (look st) c) (pwp P H.nt H.k R x Q') (pwp P H.nt H.k R y Q') s2→(Code.cond c x y).wp P (zix H Q') a w:=by
   intro s2 F2 β2 C2 Q' h
   unfold ztj at h
   split at h
   ·rename_i b hb
    have hg:=C.G c
    rw[hb]at hg
    exact wp_cond_split (relB.1 hg) (fun hb=>ihx Q' _ F2 β2 a w (h.1 hb) C2) fun hb=>ihy Q' _ F2 β2 a w (h.2 hb) C2
   ·exact h.elim
  rcases h with h|⟨α,S,Pr,h1,h2⟩|⟨s2,hto,h⟩
  ·exact one _ F β C Q h
  rotate_left
  ·obtain⟨F2,β2,C2⟩:=hto H F β a w rfl C
   exact one s2 F2 β2 C2 Q h
  ·refine wp_mono (one _ F β C _ h1) ?_
   rintro e a' w' ⟨s',F',β',C',hq⟩
   cases e with
   | normal =>
    obtain⟨z,hz,hto⟩:=hq
    obtain⟨F2,β2,C2⟩:=hto H F' β' a' w' rfl C'
    exact⟨S z,F2,β2,C2,h2 z hz⟩
   | _=>exact⟨s',F',β',C',hq⟩
 | block id c ih =>
  intro Q s F β a w h C
  obtain⟨st,sh,sn⟩:=s
  simp only[pwp]at h
  refine wp_block (wp_mono (ih _ _ F β a w h C) ?_)
  rintro e a' w' ⟨s',F',β',C',hq⟩
  cases e with
  | exit i =>
   simp only[Exit.inBlock]
   simp only[ydn]at hq
   by_cases hi:i=id
   ·rw[if_pos hi]at hq ⊢;exact⟨s',F',β',C',hq⟩
   ·rw[if_neg hi]at hq ⊢;exact⟨s',F',β',C',hq⟩
  | _=>exact⟨s',F',β',C',hq⟩
 | loop c ih =>
  intro Q s F β a w h C
  obtain⟨st,sh,sn⟩:=s
  simp only[pwp]at h
  obtain⟨α,S,Pr,μ,⟨x0,hx0,hto⟩,hround⟩:=h
  obtain⟨F0,β0,C0⟩:=hto H F β a w rfl C
  classical
  let Iv:Act→World→Nat→Prop:=fun a w n=>∃x F β,Pr x∧Conc H (S x) F β a w ∧ μ x=n
  refine wp_loop (fun a w=>∃n,Iv a w n) (fun a w=>if h:∃n,Iv a w n then Classical.choose (zh3 h)else 0) ⟨_,x0,F0,β0,hx0,C0,rfl⟩ ?_
  intro a1 w1 hI
  obtain⟨x,F1,β1,hx,C1,hμ⟩:=(Classical.choose_spec (zh3 hI)).1
  refine wp_mono (ih _ (S x) F1 β1 a1 w1 (hround x hx) C1) ?_
  rintro e a' w' ⟨s',F',β',C',hq⟩
  cases e with
  | normal =>
   obtain⟨y,hy,hlt,hto'⟩:=hq
   obtain⟨F2,β2,C2⟩:=hto' H F' β' a' w' rfl C'
   have hI':∃n,Iv a' w' n:=⟨_,y,F2,β2,hy,C2,rfl⟩
   refine⟨hI',?_⟩
   simp only[dif_pos hI',dif_pos hI]
   rw[←hμ]
   exact Nat.lt_of_le_of_lt ((Classical.choose_spec (zh3 hI')).2 _ ⟨y,F2,β2,hy,C2,rfl⟩) hlt
  | _=>exact⟨s',F',β',C',hq⟩
 | rangeFunc f ps x y _ _=>intro Q s F β a w h C;cases s;exact h H F β a w rfl rfl C
 | exit id=>intro Q s F β a w h C;cases s;exact wp_exit ⟨_,F,β,C,h⟩
 | scope c ih =>
  intro Q s F β a w h C
  obtain⟨st,sh,sn⟩:=s
  simp only[pwp]at h
  refine wp_scope_straight (wp_mono (ih _ _ F β a w h C) ?_)
  rintro e a' w' ⟨s',F',β',C',hq⟩
  cases e with
  | goto l=>exact hq.elim
  | _=>exact⟨s',F',β',C',hq⟩
 | label l=>intro Q s F β a w h C;cases s;exact wp_label ⟨_,F,β,C,h⟩
 | goto l=>intro Q s F β a w h C;cases s;exact h.elim
 | ret=>intro Q s F β a w h C;cases s;exact wp_ret ⟨_,F,β,C,h⟩
 | refuse why=>intro Q s F β a w h C;cases s;exact h.elim
end
def ykk (k:Nat) (hs':List Chunk) (s:St):Prop:=∃s',ToK k s s'∧k≤hs'.length∧∃ids:List Nat,ids.take k=List.range k∧ids.Nodup∧hsW ids (zan s'.h) ids hs'
def yk5 (P:Program) (k:Nat) (rs:List ResultVar):Out→Exit→St→Prop
 | .ret r hs',e,s=>yh2 P k rs r hs' e s
 | .pan v hs',e,s=>e = .panic [{ v:=v,recovered:=false }]∧ykk k hs' s
theorem z9k {P : Program} {f : FuncId} {fn : Func} {c : Code} {args : List AV} {hs hs' : List Chunk} {v : Value} (hf : P.funcs[f]? = some fn) (hb : fn.body = some c) (hn : (fn.name == "runtime.NumGoroutine") = false)
 (nt:Nat) (hnt:nt=args.length+(fn.ntmps-args.length)) (hle:hs.length≤hs'.length)
 (h:∀(H:Hist) (F:Nat→Prop) (β : Nat→Option Bind) (a:Act) (w:World),H.nt=nt→H.k=hs.length→Conc H ⟨zj0 0 args,hsT 0 hs,hs.length⟩ F β a w→c.wp P (zix H fun e s=>e = .panic [{ v:=v,recovered:=false }]∧ykk hs.length hs' s) a w):z8s P f args hs v hs':=by
 refine⟨⟨fn,hf,by rw[hb];rfl,hn⟩,hle,?_⟩
 intro w F β vs M hv
 have hvl:=hv.len
 refine callsIn_wide.1 (callsIn_of_wp_marks (n:=0) hf hb trivial (wpIn_wide.2 ?_))
 have C:Conc ⟨w,inB β,F,β,hs.length,nt⟩ ⟨zj0 0 args,hsT 0 hs,hs.length⟩ F β { tmps:=vs.toArray++Array.replicate (fn.ntmps-vs.toArray.size) undef,defers := [] } w:=zk1 M hv hnt
 refine wp_mono (h ⟨w,inB β,F,β,hs.length,nt⟩ F β _ w rfl rfl C) ?_
 rintro e a' w' ⟨s',F',β',C',rfl,s2,hto,hk,ids,h1,h2,h3⟩
 obtain⟨F2,β2,C2⟩:=hto _ F' β' a' w' rfl C'
 refine zvb C2 fun a1 w1 ht1 C3=>?_
 have M':=zgx C3.m h2 h3
 obtain⟨hl,_⟩:=zvf h3
 rw[hl]at M'
 refine⟨undef,_,_,rfl,M',by simp only[RelA],fun b hb => .inl (C3.f b hb),fun b hb=>?_,fun i bd hi hb=>?_⟩
 ·rcases z0h C3.m hb with h|h
  ·exact C3.g b h
  ·exact .inr h
 ·have:=zms h1 hi
  simp only[zkd,this]at hb
  exact C3.e i bd hi hb
theorem zdw {P : Program} {f : FuncId} {fn : Func} {c : Code} {args : List AV} {hs : List Chunk} (o : Out) (R : List Nat) (hf : P.funcs[f]? = some fn) (hb : fn.body = some c) (hn : (fn.name == "runtime.NumGoroutine") = false) (hmix : P.follows .mixedOrders = true)
 (nt:Nat) (hnt:nt=args.length+(fn.ntmps-args.length)) (rs:List ResultVar) (hrs:fn.results=rs.toArray) (hle:hs.length≤match o with | .ret _ hs'=>hs'.length | .pan _ hs'=>hs'.length)
 (h:pwp P nt hs.length R c (yk5 P hs.length rs o) ⟨zj0 0 args,hsT 0 hs,hs.length⟩):zc6 P f args hs o:=by
 have run:∀(H:Hist) (F:Nat→Prop) (β : Nat→Option Bind) (a:Act) (w:World),H.nt=nt→H.k=hs.length→Conc H ⟨zj0 0 args,hsT 0 hs,hs.length⟩ F β a w→c.wp P (zix H (yk5 P hs.length rs o)) a w :=
  fun H F β a w e1 e2 C=>yey hmix (fun _ _ _ _ _ _ _ id hx C=>z0q hmix id hx C) c _ _ F β a w (by rw[e1,e2];exact h) C
 cases o with
 | ret r hs' =>
  exact z33 hf hb hn nt hnt rs hrs hle fun H F β a w e1 e2 C=>run H F β a w e1 e2 C
 | pan v hs' =>
  exact z9k hf hb hn nt hnt hle fun H F β a w e1 e2 C=>run H F β a w e1 e2 C
section
variable {P : Program} {k : Nat} {rs : List ResultVar} {r : AV} {hs' : List Chunk} {s : St} {Q : Exit → St → Prop}
theorem zhg (h:z2p P k rs r hs' s):yk5 P k rs (.ret r hs') .ret s:=h
theorem zfe {v:Value} (h:ykk k hs' s):yk5 P k rs (.pan v hs') (.panic [{ v:=v,recovered:=false }]) s:=⟨rfl,h⟩
theorem zfo {s':St} (ids:List Nat) (ht:ToK k s s') (hk:ids.take k=List.range k) (hl:k≤hs'.length) (hnd:ids.Nodup) (hh:hsW ids (zan s'.h) ids hs'):ykk k hs' s:=⟨s',ht,hl,ids,hk,hnd,hh⟩
theorem yn7:ykk 0 [] s:=⟨s,ToK.refl _ _,Nat.le_refl _,[],rfl,List.nodup_nil,trivial⟩
theorem ztl {nt:Nat} {ops:Array Oper} (h:ztm P nt ops ops.toList (Q .normal) s):yhq P nt k ops Q s:=⟨s,ToK.refl _ _,.inl h⟩
theorem ymt {nt:Nat} {ops:Array Oper} (h:zad P nt ops (Q .normal) s):ynx P nt ops Q s := .inl h
theorem yms {nt:Nat} {ops:Array Oper} (p:Nat) (h:z1p P nt ops ops.toList[p]? Q (ops.toList.take p) s) (hok:ymw ops p=true:=by kernel_rfl) (hp:p<ops.size:=by decide):ynx P nt ops Q s := .inr ⟨p,hp,hok,h⟩
theorem yn6 {nt:Nat} {ops:Array Oper} {s':St} (ht:ToK k s s') (h:ztm P nt ops ops.toList (Q .normal) s'):yhq P nt k ops Q s:=⟨s',ht,.inl h⟩
theorem yin {nt:Nat} {ops:Array Oper} (i:Nat) {s':St} (ht:ToK k s s') (h:ztm P nt ops (ops.toList.take i) (z84 P (pnQ Q) ops.toList[i]?) s'):yhq P nt k ops Q s:=⟨s',ht,.inr ⟨i,h⟩⟩
theorem zfn {nt:Nat} {ops:Array Oper} (i:Nat) (h:ztm P nt ops (ops.toList.take i) (z84 P (pnQ Q) ops.toList[i]?) s):yhq P nt k ops Q s:=⟨s,ToK.refl _ _,.inr ⟨i,h⟩⟩
theorem caN {f:FuncId} {args args':List AV} {h:Nat→Chunk} {m:Nat} {K:Value→List (Nat × Chunk)→Nat→Prop} {v:Value} {hs hs':List Chunk} (ids:List Nat) (S:z8s P f args' hs v hs') (k:K v (zts ids m 0 hs') (hs'.length-ids.length)) (hw:WkL (cvL ids noC args) args':=by exact WkL.refl _) (hh:hs=ids.map (fun id=>cvC ids noC (h id)):=by rfl) (hnd:ids.Nodup:=by decide) (hal:∀id∈ids,h id ≠ .dead:=by simp[za6]):ykn P f args h m K :=
 ⟨v,ids,args',hs',hnd,hw,hal,hh▸S,k⟩
theorem yia {k:St→Prop} {c:List PanicEntry} : yhw k Q (.panic c) s=Q (.panic c) s:=rfl
theorem yj9 {id:Nat} {c:List PanicEntry} : ydn id Q (.panic c) s=Q (.panic c) s:=rfl
theorem yie {c:List PanicEntry} : ykw Q (.panic c) s=Q (.panic c) s:=rfl
theorem yf0 {α : Type} {S : α → St} {Pr : α → Prop} {c:List PanicEntry} : zsl k S Pr Q (.panic c) s=Q (.panic c) s:=rfl
theorem ym5 {α : Type} {S : α → St} {Pr : α → Prop} {μ : α → Nat} {x : α} {c:List PanicEntry} : lpK k S Pr μ x Q (.panic c) s=Q (.panic c) s:=rfl
end
attribute [push_cast] ybl pwp z1p zjc pnQ z84 ye2 zrg yhv yia yj9 yie yf0 ym5 List.take_succ_cons List.take_zero List.getElem?_cons_succ List.getElem?_cons_zero
end Go.Proofs.YtgggemkjaccbhaaGreatDoor
namespace Go.Proofs
open Go.Shelf
def Tryz.lays156_ren:Go.Shelf.Ren:=⟨fun|156=>18|165=>43|166=>8|169=>10|240=>15|241=>81|276=>41|277=>117|n=>n,fun|31=>24|9=>9|3=>3|4=>4|0=>0|20=>20|72=>40|76=>44|70=>37|37=>38|75=>43|127=>65|164=>102|5=>5|80=>47|n=>n,fun|n=>n⟩
theorem Tryz.lays156:Go.Proofs.Lays.n156 Tryz.prog Tryz.lays156_ren:={
 mixed:=by kernel_rfl
 f156:=Tryz.func18.trans (congrArg some (by kernel_rfl))
 f165:=Tryz.func43.trans (congrArg some (by kernel_rfl))
 f166:=Tryz.func8.trans (congrArg some (by kernel_rfl))
 f169:=Tryz.func10.trans (congrArg some (by kernel_rfl))
 f240:=Tryz.func15.trans (congrArg some (by kernel_rfl))
 f241:=Tryz.func81.trans (congrArg some (by kernel_rfl))
 f276:=Tryz.func41.trans (congrArg some (by kernel_rfl))
 f277:=Tryz.func117.trans (congrArg some (by kernel_rfl))
 t0:=Tryz.underlying0
 a0:=Tryz.isAgg0
 z0:=Tryz.sizeOf0
 v0:=Tryz.zeroValue0
 t3:=Tryz.underlying3
 a3:=Tryz.isAgg3
 z3:=Tryz.sizeOf3
 v3:=Tryz.zeroValue3
 t4:=Tryz.underlying4
 a4:=Tryz.isAgg4
 z4:=Tryz.sizeOf4
 v4:=Tryz.zeroValue4
 t9:=Tryz.underlying9
 a9:=Tryz.isAgg9
 z9:=Tryz.sizeOf9
 v9:=Tryz.zeroValue9
 t20:=Tryz.underlying20
 a20:=Tryz.isAgg20
 z20:=Tryz.sizeOf20
 v20:=Tryz.zeroValue20
 t31:=Tryz.underlying24
 a31:=Tryz.isAgg24
 z31:=Tryz.sizeOf24
 v31:=Tryz.zeroValue24
 t37:=Tryz.underlying38
 a37:=Tryz.isAgg38
 z37:=Tryz.sizeOf38
 v37:=Tryz.zeroValue38
 t70:=Tryz.underlying37
 a70:=Tryz.isAgg37
 z70:=Tryz.sizeOf37
 v70:=Tryz.zeroValue37
 t72:=Tryz.underlying40
 a72:=Tryz.isAgg40
 z72:=Tryz.sizeOf40
 v72:=Tryz.zeroValue40
 t75:=Tryz.underlying43
 a75:=Tryz.isAgg43
 z75:=Tryz.sizeOf43
 v75:=Tryz.zeroValue43
 t76:=Tryz.underlying44
 a76:=Tryz.isAgg44
 z76:=Tryz.sizeOf44
 v76:=Tryz.zeroValue44
 t127:=Tryz.underlying65
 a127:=Tryz.isAgg65
 z127:=Tryz.sizeOf65
 v127:=Tryz.zeroValue65
 t164:=Tryz.underlying102
 a164:=Tryz.isAgg102
 z164:=Tryz.sizeOf102
 v164:=Tryz.zeroValue102 }
theorem Tryz.Builder_Extra_156:Builder.Extra Tryz.prog Tryz.lays156_ren:={
 sizeBuilder:=by kernel_rfl
 liesBuilder:=by kernel_rfl
 t5:=Tryz.underlying5
 a5:=Tryz.isAgg5
 z5:=Tryz.sizeOf5
 v5:=Tryz.zeroValue5
 infoByte:=by kernel_rfl
 cellsByte:=by kernel_rfl
 sizeByte:=by kernel_rfl
 neB5:=by decide }
open Go.RowKit in
theorem Tryz.strings_Join_none (a:Option Addr) (c:Nat) (sep:ByteArray) (w:World) :
 Calls Tryz.prog 18 #[.slice a 0 c,.string sep] w fun e w'=>e = .returned (.string ⟨#[]⟩)∧w'=w:=Any.strings_Join_none Tryz.lays156 Tryz.Builder_Extra_156 a c sep w
open Go.RowKit in
theorem Tryz.strings_Join (bk o c:Nat) (xs:List ByteArray) (sep:ByteArray) (w:World) (hcells:∀(j:Nat) x,xs[j]? = some x→w.cell? ⟨bk,o+j,none⟩=some (.string x)) (hbk:bk<w.heap.size) (hN:xs.length≤140737488355328) (hcap:xs.length≤c) (hlen:(Lib.join (xs.map (·.data.toList)) sep.data.toList).length≤140737488355328) :
 Calls Tryz.prog 18 #[.slice (some ⟨bk,o,none⟩) xs.length c,.string sep] w fun e w'=>e = .returned (.string ⟨(Lib.join (xs.map (·.data.toList)) sep.data.toList).toArray⟩)∧Below w.heap.size w w':=Any.strings_Join Tryz.lays156 Tryz.Builder_Extra_156 bk o c xs sep w hcells hbk hN hcap hlen
def Tryz.lays137_ren:Go.Shelf.Ren:=⟨fun|137=>61|217=>90|266=>134|n=>n,fun|9=>9|5=>5|3=>3|n=>n,fun|n=>n⟩
theorem Tryz.lays137:Go.Proofs.Lays.n137 Tryz.prog Tryz.lays137_ren:={
 mixed:=by kernel_rfl
 f137:=Tryz.func61.trans (congrArg some (by kernel_rfl))
 f217:=Tryz.func90.trans (congrArg some (by kernel_rfl))
 f266:=Tryz.func134.trans (congrArg some (by kernel_rfl))
 t3:=Tryz.underlying3
 a3:=Tryz.isAgg3
 z3:=Tryz.sizeOf3
 v3:=Tryz.zeroValue3
 t5:=Tryz.underlying5
 a5:=Tryz.isAgg5
 z5:=Tryz.sizeOf5
 v5:=Tryz.zeroValue5
 t9:=Tryz.underlying9
 a9:=Tryz.isAgg9
 z9:=Tryz.sizeOf9
 v9:=Tryz.zeroValue9 }
open Go.RowKit in
theorem Tryz.strings_IndexByte (s:ByteArray) (c:Int) (w:World) :
 Calls Tryz.prog 61 #[.string s,.int .u8 c] w fun e w'=>e = .returned (.int .i64 (Lib.indexByte s.data.toList c.toNat.toUInt8))∧w'=w:=Any.strings_IndexByte Tryz.lays137 s c w
def Tryz.lays283_ren:Go.Shelf.Ren:=⟨fun|283=>113|n=>n,fun|3=>3|9=>9|4=>4|n=>n,fun|n=>n⟩
theorem Tryz.lays283:Go.Proofs.Lays.n283 Tryz.prog Tryz.lays283_ren:={
 mixed:=by kernel_rfl
 f283:=Tryz.func113.trans (congrArg some (by kernel_rfl))
 t3:=Tryz.underlying3
 a3:=Tryz.isAgg3
 z3:=Tryz.sizeOf3
 v3:=Tryz.zeroValue3
 t4:=Tryz.underlying4
 a4:=Tryz.isAgg4
 z4:=Tryz.sizeOf4
 v4:=Tryz.zeroValue4
 t9:=Tryz.underlying9
 a9:=Tryz.isAgg9
 z9:=Tryz.sizeOf9
 v9:=Tryz.zeroValue9 }
open Go.Lib in
theorem Tryz.internal_strconv_small (i:Nat) (h:i<100) (w:World) :
 Calls Tryz.prog 113 #[.int .i64 i] w fun e w'=>e = .returned (.string ⟨(Lib.decDigits i).toArray⟩)∧w'=w:=Any.internal_strconv_small Tryz.lays283 i h w
def Tryz.laysM284_ren:Go.Shelf.Ren:=⟨fun|284=>114|129=>146|317=>145|318=>147|n=>n,fun|53=>178|3=>3|212=>224|0=>0|4=>4|46=>176|5=>5|9=>9|n=>n,fun|17=>3|n=>n⟩
theorem Tryz.laysM284:Go.Proofs.LaysM.n284 Tryz.prog Tryz.laysM284_ren:={
 mixed:=by kernel_rfl
 f129:=Tryz.func146.trans (congrArg some (by kernel_rfl))
 f284:=Tryz.func114.trans (congrArg some (by kernel_rfl))
 f317:=Tryz.func145.trans (congrArg some (by kernel_rfl))
 f318:=Tryz.func147.trans (congrArg some (by kernel_rfl))
 t0:=Tryz.underlying0
 a0:=Tryz.isAgg0
 z0:=Tryz.sizeOf0
 v0:=Tryz.zeroValue0
 t3:=Tryz.underlying3
 a3:=Tryz.isAgg3
 z3:=Tryz.sizeOf3
 v3:=Tryz.zeroValue3
 t4:=Tryz.underlying4
 a4:=Tryz.isAgg4
 z4:=Tryz.sizeOf4
 v4:=Tryz.zeroValue4
 t5:=Tryz.underlying5
 a5:=Tryz.isAgg5
 z5:=Tryz.sizeOf5
 v5:=Tryz.zeroValue5
 t9:=Tryz.underlying9
 a9:=Tryz.isAgg9
 z9:=Tryz.sizeOf9
 v9:=Tryz.zeroValue9
 t46:=Tryz.underlying176
 a46:=Tryz.isAgg176
 z46:=Tryz.sizeOf176
 v46:=Tryz.zeroValue176
 t53:=Tryz.underlying178
 a53:=Tryz.isAgg178
 z53:=Tryz.sizeOf178
 v53:=Tryz.zeroValue178
 t212:=Tryz.underlying224
 a212:=Tryz.isAgg224
 z212:=Tryz.sizeOf224
 v212:=Tryz.zeroValue224
 g17:=by kernel_rfl
 i0:=by kernel_rfl
 i3:=by kernel_rfl
 i4:=by kernel_rfl
 i5:=by kernel_rfl
 i9:=by kernel_rfl
 i46:=by kernel_rfl
 i53:=by kernel_rfl
 i212:=by kernel_rfl
 m17:=by kernel_rfl }
open Go.Lib in
theorem Tryz.internal_strconv_numDigits (u : Nat) (h1 : 1 ≤ u) (h2 : u < 18446744073709551616) (w : World) (htab : Lib.TabIs Tryz.prog w "internal/strconv.uint64pow10" .u64 Lib.pow10Tab) :
 Calls Tryz.prog 114 #[.int .u64 u] w fun e w'=>e = .returned (.int .i64 (Lib.nDigits u))∧w'=w:=Any.internal_strconv_numDigits Tryz.laysM284 u h1 h2 w htab
def Tryz.lays285_ren:Go.Shelf.Ren:=⟨fun|285=>115|n=>n,fun|37=>38|53=>178|3=>3|4=>4|51=>220|9=>9|5=>5|0=>0|n=>n,fun|n=>n⟩
theorem Tryz.lays285:Go.Proofs.Lays.n285 Tryz.prog Tryz.lays285_ren:={
 mixed:=by kernel_rfl
 f285:=Tryz.func115.trans (congrArg some (by kernel_rfl))
 t0:=Tryz.underlying0
 a0:=Tryz.isAgg0
 z0:=Tryz.sizeOf0
 v0:=Tryz.zeroValue0
 t3:=Tryz.underlying3
 a3:=Tryz.isAgg3
 z3:=Tryz.sizeOf3
 v3:=Tryz.zeroValue3
 t4:=Tryz.underlying4
 a4:=Tryz.isAgg4
 z4:=Tryz.sizeOf4
 v4:=Tryz.zeroValue4
 t5:=Tryz.underlying5
 a5:=Tryz.isAgg5
 z5:=Tryz.sizeOf5
 v5:=Tryz.zeroValue5
 t9:=Tryz.underlying9
 a9:=Tryz.isAgg9
 z9:=Tryz.sizeOf9
 v9:=Tryz.zeroValue9
 t37:=Tryz.underlying38
 a37:=Tryz.isAgg38
 z37:=Tryz.sizeOf38
 v37:=Tryz.zeroValue38
 t51:=Tryz.underlying220
 a51:=Tryz.isAgg220
 z51:=Tryz.sizeOf220
 v51:=Tryz.zeroValue220
 t53:=Tryz.underlying178
 a53:=Tryz.isAgg178
 z53:=Tryz.sizeOf178
 v53:=Tryz.zeroValue178 }
open Go.RowKit Go.Sort Go.Lib in
theorem Tryz.internal_strconv_formatBase10 (blk off cap:Nat) (u:Nat) (d:Array UInt8) (w:World) (hH:Holds (fun (b:UInt8)=>Value.int .u8 (b.toNat:Int)) w blk off d) (hu:u<10 ^ d.size) (hu64:u<18446744073709551616) (hsz:d.size<4611686018427387904) :
 Calls Tryz.prog 115 #[.slice (some ⟨blk,off,none⟩) d.size cap,.int .u64 u] w fun e w' =>
  e = .returned (.tuple #[])∧∃(n v':Nat) (dk:Array UInt8),w'=(putRow (fun (b:UInt8)=>Value.int .u8 (b.toNat:Int)) w blk off dk).drewN n∧FmtInv d.size u 0 v' dk:=Any.internal_strconv_formatBase10 Tryz.lays285 blk off cap u d w hH hu hu64 hsz
def Tryz.laysM171_ren:Go.Shelf.Ren:=⟨fun|171=>17|243=>42|246=>80|283=>113|284=>114|285=>115|286=>116|129=>146|317=>145|318=>147|319=>148|320=>149|337=>177|338=>178|n=>n,fun|3=>3|9=>9|2=>2|4=>4|171=>177|0=>0|53=>178|37=>38|5=>5|173=>181|212=>224|51=>220|20=>20|213=>225|46=>176|232=>274|233=>275|n=>n,fun|17=>3|18=>4|19=>5|n=>n⟩
theorem Tryz.laysM171:Go.Proofs.LaysM.n171 Tryz.prog Tryz.laysM171_ren:={
 mixed:=by kernel_rfl
 f129:=Tryz.func146.trans (congrArg some (by kernel_rfl))
 f171:=Tryz.func17.trans (congrArg some (by kernel_rfl))
 f243:=Tryz.func42.trans (congrArg some (by kernel_rfl))
 f246:=Tryz.func80.trans (congrArg some (by kernel_rfl))
 f283:=Tryz.func113.trans (congrArg some (by kernel_rfl))
 f284:=Tryz.func114.trans (congrArg some (by kernel_rfl))
 f285:=Tryz.func115.trans (congrArg some (by kernel_rfl))
 f286:=Tryz.func116.trans (congrArg some (by kernel_rfl))
 f317:=Tryz.func145.trans (congrArg some (by kernel_rfl))
 f318:=Tryz.func147.trans (congrArg some (by kernel_rfl))
 f319:=Tryz.func148.trans (congrArg some (by kernel_rfl))
 f320:=Tryz.func149.trans (congrArg some (by kernel_rfl))
 f337:=Tryz.func177.trans (congrArg some (by kernel_rfl))
 f338:=Tryz.func178.trans (congrArg some (by kernel_rfl))
 t0:=Tryz.underlying0
 a0:=Tryz.isAgg0
 z0:=Tryz.sizeOf0
 v0:=Tryz.zeroValue0
 t2:=Tryz.underlying2
 a2:=Tryz.isAgg2
 z2:=Tryz.sizeOf2
 v2:=Tryz.zeroValue2
 t3:=Tryz.underlying3
 a3:=Tryz.isAgg3
 z3:=Tryz.sizeOf3
 v3:=Tryz.zeroValue3
 t4:=Tryz.underlying4
 a4:=Tryz.isAgg4
 z4:=Tryz.sizeOf4
 v4:=Tryz.zeroValue4
 t5:=Tryz.underlying5
 a5:=Tryz.isAgg5
 z5:=Tryz.sizeOf5
 v5:=Tryz.zeroValue5
 t9:=Tryz.underlying9
 a9:=Tryz.isAgg9
 z9:=Tryz.sizeOf9
 v9:=Tryz.zeroValue9
 t20:=Tryz.underlying20
 a20:=Tryz.isAgg20
 z20:=Tryz.sizeOf20
 v20:=Tryz.zeroValue20
 t37:=Tryz.underlying38
 a37:=Tryz.isAgg38
 z37:=Tryz.sizeOf38
 v37:=Tryz.zeroValue38
 t46:=Tryz.underlying176
 a46:=Tryz.isAgg176
 z46:=Tryz.sizeOf176
 v46:=Tryz.zeroValue176
 t51:=Tryz.underlying220
 a51:=Tryz.isAgg220
 z51:=Tryz.sizeOf220
 v51:=Tryz.zeroValue220
 t53:=Tryz.underlying178
 a53:=Tryz.isAgg178
 z53:=Tryz.sizeOf178
 v53:=Tryz.zeroValue178
 t171:=Tryz.underlying177
 a171:=Tryz.isAgg177
 z171:=Tryz.sizeOf177
 v171:=Tryz.zeroValue177
 t173:=Tryz.underlying181
 a173:=Tryz.isAgg181
 z173:=Tryz.sizeOf181
 v173:=Tryz.zeroValue181
 t212:=Tryz.underlying224
 a212:=Tryz.isAgg224
 z212:=Tryz.sizeOf224
 v212:=Tryz.zeroValue224
 t213:=Tryz.underlying225
 a213:=Tryz.isAgg225
 z213:=Tryz.sizeOf225
 t232:=Tryz.underlying274
 a232:=Tryz.isAgg274
 z232:=Tryz.sizeOf274
 v232:=Tryz.zeroValue274
 t233:=Tryz.underlying275
 a233:=Tryz.isAgg275
 z233:=Tryz.sizeOf275
 v233:=Tryz.zeroValue275
 g17:=by kernel_rfl
 g18:=by kernel_rfl
 g19:=by kernel_rfl
 i0:=by kernel_rfl
 i2:=by kernel_rfl
 i3:=by kernel_rfl
 i4:=by kernel_rfl
 i5:=by kernel_rfl
 i9:=by kernel_rfl
 i20:=by kernel_rfl
 i37:=by kernel_rfl
 i46:=by kernel_rfl
 i51:=by kernel_rfl
 i53:=by kernel_rfl
 i171:=by kernel_rfl
 i173:=by kernel_rfl
 i212:=by kernel_rfl
 i232:=by kernel_rfl
 i233:=by kernel_rfl
 m17:=by kernel_rfl
 m18:=by kernel_rfl
 m19:=by kernel_rfl }
open Go.RowKit Go.Sort Go.Lib in
theorem Tryz.strconv_Itoa (n : Int) (h0 : -9223372036854775808 ≤ n) (h1 : n ≤ 9223372036854775807) (w : World) (htab : Lib.TabIs Tryz.prog w "internal/strconv.uint64pow10" .u64 Lib.pow10Tab) :
 Calls Tryz.prog 17 #[.int .i64 n] w fun e w'=>e = .returned (.string ⟨(Lib.itoa n).toArray⟩)∧∃k os,w'=grow (w.drewN k) os:=Any.strconv_Itoa Tryz.laysM171 n h0 h1 w htab
def Tryz.laysPu14_ren:Go.Shelf.Ren:=⟨fun|14=>121|16=>157|17=>158|19=>183|20=>184|21=>185|22=>186|23=>187|24=>188|25=>203|27=>17|26=>204|28=>42|29=>80|30=>113|31=>114|32=>115|33=>116|35=>146|34=>145|36=>147|37=>148|38=>149|39=>177|40=>178|n=>n,fun|9=>9|3=>3|22=>178|24=>43|25=>187|4=>4|34=>252|5=>5|36=>176|37=>38|0=>0|39=>254|21=>21|44=>278|47=>65|50=>300|48=>298|2=>2|52=>177|55=>181|59=>224|60=>220|20=>20|61=>225|65=>274|66=>275|67=>47|n=>n,fun|0=>6|1=>7|2=>3|3=>4|4=>5|n=>n⟩
theorem Tryz.laysPu14:Go.Proofs.LaysPu.n14 Tryz.prog Tryz.laysPu14_ren:={
 mixed:=by kernel_rfl
 f14:=Tryz.func121.trans (congrArg some (by kernel_rfl))
 f16:=Tryz.func157.trans (congrArg some (by kernel_rfl))
 f17:=Tryz.func158.trans (congrArg some (by kernel_rfl))
 f19:=Tryz.func183.trans (congrArg some (by kernel_rfl))
 f20:=Tryz.func184.trans (congrArg some (by kernel_rfl))
 f21:=Tryz.func185.trans (congrArg some (by kernel_rfl))
 f22:=Tryz.func186.trans (congrArg some (by kernel_rfl))
 f23:=Tryz.func187.trans (congrArg some (by kernel_rfl))
 f24:=Tryz.func188.trans (congrArg some (by kernel_rfl))
 f25:=Tryz.func203.trans (congrArg some (by kernel_rfl))
 f26:=Tryz.func204.trans (congrArg some (by kernel_rfl))
 f27:=Tryz.func17.trans (congrArg some (by kernel_rfl))
 f28:=Tryz.func42.trans (congrArg some (by kernel_rfl))
 f29:=Tryz.func80.trans (congrArg some (by kernel_rfl))
 f30:=Tryz.func113.trans (congrArg some (by kernel_rfl))
 f31:=Tryz.func114.trans (congrArg some (by kernel_rfl))
 f32:=Tryz.func115.trans (congrArg some (by kernel_rfl))
 f33:=Tryz.func116.trans (congrArg some (by kernel_rfl))
 f34:=Tryz.func145.trans (congrArg some (by kernel_rfl))
 f35:=Tryz.func146.trans (congrArg some (by kernel_rfl))
 f36:=Tryz.func147.trans (congrArg some (by kernel_rfl))
 f37:=Tryz.func148.trans (congrArg some (by kernel_rfl))
 f38:=Tryz.func149.trans (congrArg some (by kernel_rfl))
 f39:=Tryz.func177.trans (congrArg some (by kernel_rfl))
 f40:=Tryz.func178.trans (congrArg some (by kernel_rfl))
 t0:=Tryz.underlying0
 a0:=Tryz.isAgg0
 z0:=Tryz.sizeOf0
 v0:=Tryz.zeroValue0
 i0:=by kernel_rfl
 t2:=Tryz.underlying2
 a2:=Tryz.isAgg2
 z2:=Tryz.sizeOf2
 v2:=Tryz.zeroValue2
 i2:=by kernel_rfl
 t3:=Tryz.underlying3
 a3:=Tryz.isAgg3
 z3:=Tryz.sizeOf3
 v3:=Tryz.zeroValue3
 i3:=by kernel_rfl
 t4:=Tryz.underlying4
 a4:=Tryz.isAgg4
 z4:=Tryz.sizeOf4
 v4:=Tryz.zeroValue4
 i4:=by kernel_rfl
 t5:=Tryz.underlying5
 a5:=Tryz.isAgg5
 z5:=Tryz.sizeOf5
 v5:=Tryz.zeroValue5
 i5:=by kernel_rfl
 t9:=Tryz.underlying9
 a9:=Tryz.isAgg9
 z9:=Tryz.sizeOf9
 v9:=Tryz.zeroValue9
 i9:=by kernel_rfl
 t20:=Tryz.underlying20
 a20:=Tryz.isAgg20
 z20:=Tryz.sizeOf20
 v20:=Tryz.zeroValue20
 i20:=by kernel_rfl
 t21:=Tryz.underlying21
 a21:=Tryz.isAgg21
 z21:=Tryz.sizeOf21
 v21:=Tryz.zeroValue21
 i21:=by kernel_rfl
 t22:=Tryz.underlying178
 a22:=Tryz.isAgg178
 z22:=Tryz.sizeOf178
 v22:=Tryz.zeroValue178
 i22:=by kernel_rfl
 t24:=Tryz.underlying43
 a24:=Tryz.isAgg43
 z24:=Tryz.sizeOf43
 v24:=Tryz.zeroValue43
 i24:=by kernel_rfl
 t25:=Tryz.underlying187
 a25:=Tryz.isAgg187
 z25:=Tryz.sizeOf187
 v25:=Tryz.zeroValue187
 i25:=by kernel_rfl
 t34:=Tryz.underlying252
 a34:=Tryz.isAgg252
 z34:=Tryz.sizeOf252
 v34:=Tryz.zeroValue252
 i34:=by kernel_rfl
 c34:=by kernel_rfl
 t36:=Tryz.underlying176
 a36:=Tryz.isAgg176
 z36:=Tryz.sizeOf176
 v36:=Tryz.zeroValue176
 i36:=by kernel_rfl
 t37:=Tryz.underlying38
 a37:=Tryz.isAgg38
 z37:=Tryz.sizeOf38
 v37:=Tryz.zeroValue38
 i37:=by kernel_rfl
 t39:=Tryz.underlying254
 a39:=Tryz.isAgg254
 z39:=Tryz.sizeOf254
 v39:=Tryz.zeroValue254
 i39:=by kernel_rfl
 t44:=Tryz.underlying278
 a44:=Tryz.isAgg278
 z44:=Tryz.sizeOf278
 v44:=Tryz.zeroValue278
 i44:=by kernel_rfl
 t47:=Tryz.underlying65
 a47:=Tryz.isAgg65
 z47:=Tryz.sizeOf65
 v47:=Tryz.zeroValue65
 i47:=by kernel_rfl
 t48:=Tryz.underlying298
 a48:=Tryz.isAgg298
 z48:=Tryz.sizeOf298
 v48:=Tryz.zeroValue298
 i48:=by kernel_rfl
 t50:=Tryz.underlying300
 a50:=Tryz.isAgg300
 z50:=Tryz.sizeOf300
 v50:=Tryz.zeroValue300
 i50:=by kernel_rfl
 t52:=Tryz.underlying177
 a52:=Tryz.isAgg177
 z52:=Tryz.sizeOf177
 v52:=Tryz.zeroValue177
 i52:=by kernel_rfl
 t55:=Tryz.underlying181
 a55:=Tryz.isAgg181
 z55:=Tryz.sizeOf181
 v55:=Tryz.zeroValue181
 i55:=by kernel_rfl
 t59:=Tryz.underlying224
 a59:=Tryz.isAgg224
 z59:=Tryz.sizeOf224
 v59:=Tryz.zeroValue224
 i59:=by kernel_rfl
 t60:=Tryz.underlying220
 a60:=Tryz.isAgg220
 z60:=Tryz.sizeOf220
 v60:=Tryz.zeroValue220
 i60:=by kernel_rfl
 t61:=Tryz.underlying225
 a61:=Tryz.isAgg225
 z61:=Tryz.sizeOf225
 t65:=Tryz.underlying274
 a65:=Tryz.isAgg274
 z65:=Tryz.sizeOf274
 v65:=Tryz.zeroValue274
 i65:=by kernel_rfl
 t66:=Tryz.underlying275
 a66:=Tryz.isAgg275
 z66:=Tryz.sizeOf275
 v66:=Tryz.zeroValue275
 i66:=by kernel_rfl
 t67:=Tryz.underlying47
 a67:=Tryz.isAgg47
 z67:=Tryz.sizeOf47
 v67:=Tryz.zeroValue47
 i67:=by kernel_rfl
 g0:=by kernel_rfl
 m0:=by kernel_rfl
 g1:=by kernel_rfl
 m1:=by kernel_rfl
 g2:=by kernel_rfl
 m2:=by kernel_rfl
 g3:=by kernel_rfl
 m3:=by kernel_rfl
 g4:=by kernel_rfl
 m4:=by kernel_rfl }
open Go.RowKit in
theorem Tryz.strconv_ParseUint_10_at32_ok (s:ByteArray) (hmax:s.size≤9223372036854775806) (u:Nat) (h:Lib.parseUintB 32 s.data.toList = .ok u) (w:World) :
 Calls Tryz.prog 121 #[.string s,.int .i64 10,.int .i64 32] w fun e w'=>e = .returned (.tuple #[.int .u64 u,.nilIface])∧(w'=w∨w'=Lib.bytesWorld w 5 s):=Any.strconv_ParseUint_10_at32_ok Tryz.laysPu14 s hmax u h w
open Go.RowKit in
theorem Tryz.strconv_ParseUint_10_at32_syntax (s:ByteArray) (hlim:s.size≤281474976710656) (h:Lib.parseUintB 32 s.data.toList=Lib.NumEnd.syntax) (ev:Value) (w:World) (hv:w.cell? ⟨6,0,none⟩=some ev) (hev:ev = .nilIface∨∃te pe,ev = .iface te pe) :
 Calls Tryz.prog 121 #[.string s,.int .i64 10,.int .i64 32] w fun e w'=>∃N,e = .returned (.tuple #[.int .u64 0,.iface 254 (.pointer (some ⟨N,0,none⟩))])∧w.heap.size≤N∧w'.heap[N]? = some (.cells #[.string ⟨#[80,97,114,115,101,85,105,110,116]⟩,.string s,ev] 278 (0,0))∧Below w.heap.size w w':=Any.strconv_ParseUint_10_at32_syntax Tryz.laysPu14 s hlim h ev w hv hev
open Go.RowKit in
theorem Tryz.strconv_ParseUint_10_at32_range (s:ByteArray) (hlim:s.size≤281474976710656) (h:Lib.parseUintB 32 s.data.toList = .range) (ev:Value) (w:World) (hv:w.cell? ⟨7,0,none⟩=some ev) (hev:ev = .nilIface∨∃te pe,ev = .iface te pe) :
 Calls Tryz.prog 121 #[.string s,.int .i64 10,.int .i64 32] w fun e w'=>∃N,e = .returned (.tuple #[.int .u64 4294967295,.iface 254 (.pointer (some ⟨N,0,none⟩))])∧w.heap.size≤N∧w'.heap[N]? = some (.cells #[.string ⟨#[80,97,114,115,101,85,105,110,116]⟩,.string s,ev] 278 (0,0))∧Below w.heap.size w w':=Any.strconv_ParseUint_10_at32_range Tryz.laysPu14 s hlim h ev w hv hev
def Tryz.lays143_ren:Go.Shelf.Ren:=⟨fun|143=>40|219=>79|217=>90|225=>110|224=>111|267=>112|266=>134|314=>144|n=>n,fun|9=>9|3=>3|4=>4|5=>5|46=>176|146=>221|51=>220|n=>n,fun|1=>0|n=>n⟩
theorem Tryz.lays143:Go.Proofs.Lays.n143 Tryz.prog Tryz.lays143_ren:={
 mixed:=by kernel_rfl
 f143:=Tryz.func40.trans (congrArg some (by kernel_rfl))
 f217:=Tryz.func90.trans (congrArg some (by kernel_rfl))
 f219:=Tryz.func79.trans (congrArg some (by kernel_rfl))
 f224:=Tryz.func111.trans (congrArg some (by kernel_rfl))
 f225:=Tryz.func110.trans (congrArg some (by kernel_rfl))
 f266:=Tryz.func134.trans (congrArg some (by kernel_rfl))
 f267:=Tryz.func112.trans (congrArg some (by kernel_rfl))
 f314:=Tryz.func144.trans (congrArg some (by kernel_rfl))
 t3:=Tryz.underlying3
 a3:=Tryz.isAgg3
 z3:=Tryz.sizeOf3
 v3:=Tryz.zeroValue3
 t4:=Tryz.underlying4
 a4:=Tryz.isAgg4
 z4:=Tryz.sizeOf4
 v4:=Tryz.zeroValue4
 t5:=Tryz.underlying5
 a5:=Tryz.isAgg5
 z5:=Tryz.sizeOf5
 v5:=Tryz.zeroValue5
 t9:=Tryz.underlying9
 a9:=Tryz.isAgg9
 z9:=Tryz.sizeOf9
 v9:=Tryz.zeroValue9
 t46:=Tryz.underlying176
 a46:=Tryz.isAgg176
 z46:=Tryz.sizeOf176
 v46:=Tryz.zeroValue176
 t51:=Tryz.underlying220
 a51:=Tryz.isAgg220
 z51:=Tryz.sizeOf220
 v51:=Tryz.zeroValue220
 t146:=Tryz.underlying221
 a146:=Tryz.isAgg221
 z146:=Tryz.sizeOf221
 v146:=Tryz.zeroValue221
 g1:=by kernel_rfl }
open Go.RowKit Go.Lib in
theorem Tryz.strings_Index_one (s:ByteArray) (c:UInt8) (w:World) :
 Calls Tryz.prog 40 #[.string s,.string ⟨#[c]⟩] w fun e w'=>e = .returned (.int .i64 (Lib.indexByte s.data.toList c))∧w'=w:=Any.strings_Index_one Tryz.lays143 s c w
def Tryz.lays145_ren:Go.Shelf.Ren:=⟨fun|145=>20|220=>57|219=>79|217=>90|225=>110|224=>111|267=>112|266=>134|314=>144|n=>n,fun|9=>9|4=>4|59=>66|3=>3|5=>5|46=>176|146=>221|51=>220|n=>n,fun|1=>0|n=>n⟩
theorem Tryz.lays145:Go.Proofs.Lays.n145 Tryz.prog Tryz.lays145_ren:={
 mixed:=by kernel_rfl
 f145:=Tryz.func20.trans (congrArg some (by kernel_rfl))
 f217:=Tryz.func90.trans (congrArg some (by kernel_rfl))
 f219:=Tryz.func79.trans (congrArg some (by kernel_rfl))
 f220:=Tryz.func57.trans (congrArg some (by kernel_rfl))
 f224:=Tryz.func111.trans (congrArg some (by kernel_rfl))
 f225:=Tryz.func110.trans (congrArg some (by kernel_rfl))
 f266:=Tryz.func134.trans (congrArg some (by kernel_rfl))
 f267:=Tryz.func112.trans (congrArg some (by kernel_rfl))
 f314:=Tryz.func144.trans (congrArg some (by kernel_rfl))
 t3:=Tryz.underlying3
 a3:=Tryz.isAgg3
 z3:=Tryz.sizeOf3
 v3:=Tryz.zeroValue3
 t4:=Tryz.underlying4
 a4:=Tryz.isAgg4
 z4:=Tryz.sizeOf4
 v4:=Tryz.zeroValue4
 t5:=Tryz.underlying5
 a5:=Tryz.isAgg5
 z5:=Tryz.sizeOf5
 v5:=Tryz.zeroValue5
 t9:=Tryz.underlying9
 a9:=Tryz.isAgg9
 z9:=Tryz.sizeOf9
 v9:=Tryz.zeroValue9
 t46:=Tryz.underlying176
 a46:=Tryz.isAgg176
 z46:=Tryz.sizeOf176
 v46:=Tryz.zeroValue176
 t51:=Tryz.underlying220
 a51:=Tryz.isAgg220
 z51:=Tryz.sizeOf220
 v51:=Tryz.zeroValue220
 t59:=Tryz.underlying66
 a59:=Tryz.isAgg66
 z59:=Tryz.sizeOf66
 v59:=Tryz.zeroValue66
 t146:=Tryz.underlying221
 a146:=Tryz.isAgg221
 z146:=Tryz.sizeOf221
 v146:=Tryz.zeroValue221
 g1:=by kernel_rfl }
open Go.RowKit Go.Lib in
theorem Tryz.strings_Cut (s sep:ByteArray) (m:Int) (w:World) (hs:s.size<4294967281) (hm:w.cell? ⟨0,0,none⟩=some (.int .i64 m)) :
 Calls Tryz.prog 20 #[.string s,.string sep] w fun e w'=>e = .returned (.tuple #[.string ⟨(Lib.cut s.data.toList sep.data.toList).1.toArray⟩,.string ⟨(Lib.cut s.data.toList sep.data.toList).2.1.toArray⟩,.bool (Lib.cut s.data.toList sep.data.toList).2.2])∧∃n,w'=w.drewN n:=Any.strings_Cut Tryz.lays145 s sep m w hs hm
def Tryz.lays138_ren:Go.Shelf.Ren:=⟨fun|138=>39|195=>76|218=>78|143=>40|219=>79|217=>90|225=>110|224=>111|267=>112|266=>134|314=>144|n=>n,fun|9=>9|3=>3|4=>4|5=>5|0=>0|46=>176|146=>221|51=>220|n=>n,fun|1=>0|n=>n⟩
theorem Tryz.lays138:Go.Proofs.Lays.n138 Tryz.prog Tryz.lays138_ren:={
 mixed:=by kernel_rfl
 f138:=Tryz.func39.trans (congrArg some (by kernel_rfl))
 f143:=Tryz.func40.trans (congrArg some (by kernel_rfl))
 f195:=Tryz.func76.trans (congrArg some (by kernel_rfl))
 f217:=Tryz.func90.trans (congrArg some (by kernel_rfl))
 f218:=Tryz.func78.trans (congrArg some (by kernel_rfl))
 f219:=Tryz.func79.trans (congrArg some (by kernel_rfl))
 f224:=Tryz.func111.trans (congrArg some (by kernel_rfl))
 f225:=Tryz.func110.trans (congrArg some (by kernel_rfl))
 f266:=Tryz.func134.trans (congrArg some (by kernel_rfl))
 f267:=Tryz.func112.trans (congrArg some (by kernel_rfl))
 f314:=Tryz.func144.trans (congrArg some (by kernel_rfl))
 t0:=Tryz.underlying0
 a0:=Tryz.isAgg0
 z0:=Tryz.sizeOf0
 v0:=Tryz.zeroValue0
 t3:=Tryz.underlying3
 a3:=Tryz.isAgg3
 z3:=Tryz.sizeOf3
 v3:=Tryz.zeroValue3
 t4:=Tryz.underlying4
 a4:=Tryz.isAgg4
 z4:=Tryz.sizeOf4
 v4:=Tryz.zeroValue4
 t5:=Tryz.underlying5
 a5:=Tryz.isAgg5
 z5:=Tryz.sizeOf5
 v5:=Tryz.zeroValue5
 t9:=Tryz.underlying9
 a9:=Tryz.isAgg9
 z9:=Tryz.sizeOf9
 v9:=Tryz.zeroValue9
 t46:=Tryz.underlying176
 a46:=Tryz.isAgg176
 z46:=Tryz.sizeOf176
 v46:=Tryz.zeroValue176
 t51:=Tryz.underlying220
 a51:=Tryz.isAgg220
 z51:=Tryz.sizeOf220
 v51:=Tryz.zeroValue220
 t146:=Tryz.underlying221
 a146:=Tryz.isAgg221
 z146:=Tryz.sizeOf221
 v146:=Tryz.zeroValue221
 g1:=by kernel_rfl }
open Go.RowKit Go.Lib in
theorem Tryz.strings_Count_one (s:ByteArray) (c:UInt8) (w:World) :
 Calls Tryz.prog 39 #[.string s,.string ⟨#[c]⟩] w fun e w'=>e = .returned (.int .i64 (Lib.countByte s.data.toList c))∧w'=w:=Any.strings_Count_one Tryz.lays138 s c w
def Tryz.lays146_ren:Go.Shelf.Ren:=⟨fun|146=>6|221=>14|268=>38|138=>39|143=>40|195=>76|197=>77|218=>78|219=>79|260=>109|217=>90|225=>110|224=>111|267=>112|266=>134|314=>144|n=>n,fun|9=>9|31=>24|3=>3|4=>4|0=>0|105=>141|21=>21|5=>5|46=>176|119=>216|139=>219|138=>218|146=>221|51=>220|n=>n,fun|1=>0|3=>1|4=>2|n=>n⟩
theorem Tryz.lays146:Go.Proofs.Lays.n146 Tryz.prog Tryz.lays146_ren:={
 mixed:=by kernel_rfl
 f138:=Tryz.func39.trans (congrArg some (by kernel_rfl))
 f143:=Tryz.func40.trans (congrArg some (by kernel_rfl))
 f146:=Tryz.func6.trans (congrArg some (by kernel_rfl))
 f195:=Tryz.func76.trans (congrArg some (by kernel_rfl))
 f197:=Tryz.func77.trans (congrArg some (by kernel_rfl))
 f217:=Tryz.func90.trans (congrArg some (by kernel_rfl))
 f218:=Tryz.func78.trans (congrArg some (by kernel_rfl))
 f219:=Tryz.func79.trans (congrArg some (by kernel_rfl))
 f221:=Tryz.func14.trans (congrArg some (by kernel_rfl))
 f224:=Tryz.func111.trans (congrArg some (by kernel_rfl))
 f225:=Tryz.func110.trans (congrArg some (by kernel_rfl))
 f260:=Tryz.func109.trans (congrArg some (by kernel_rfl))
 f266:=Tryz.func134.trans (congrArg some (by kernel_rfl))
 f267:=Tryz.func112.trans (congrArg some (by kernel_rfl))
 f268:=Tryz.func38.trans (congrArg some (by kernel_rfl))
 f314:=Tryz.func144.trans (congrArg some (by kernel_rfl))
 t0:=Tryz.underlying0
 a0:=Tryz.isAgg0
 z0:=Tryz.sizeOf0
 v0:=Tryz.zeroValue0
 t3:=Tryz.underlying3
 a3:=Tryz.isAgg3
 z3:=Tryz.sizeOf3
 v3:=Tryz.zeroValue3
 t4:=Tryz.underlying4
 a4:=Tryz.isAgg4
 z4:=Tryz.sizeOf4
 v4:=Tryz.zeroValue4
 t5:=Tryz.underlying5
 a5:=Tryz.isAgg5
 z5:=Tryz.sizeOf5
 v5:=Tryz.zeroValue5
 t9:=Tryz.underlying9
 a9:=Tryz.isAgg9
 z9:=Tryz.sizeOf9
 v9:=Tryz.zeroValue9
 t21:=Tryz.underlying21
 a21:=Tryz.isAgg21
 z21:=Tryz.sizeOf21
 v21:=Tryz.zeroValue21
 t31:=Tryz.underlying24
 a31:=Tryz.isAgg24
 z31:=Tryz.sizeOf24
 v31:=Tryz.zeroValue24
 t46:=Tryz.underlying176
 a46:=Tryz.isAgg176
 z46:=Tryz.sizeOf176
 v46:=Tryz.zeroValue176
 t51:=Tryz.underlying220
 a51:=Tryz.isAgg220
 z51:=Tryz.sizeOf220
 v51:=Tryz.zeroValue220
 t105:=Tryz.underlying141
 a105:=Tryz.isAgg141
 z105:=Tryz.sizeOf141
 v105:=Tryz.zeroValue141
 t119:=Tryz.underlying216
 a119:=Tryz.isAgg216
 z119:=Tryz.sizeOf216
 t138:=Tryz.underlying218
 a138:=Tryz.isAgg218
 z138:=Tryz.sizeOf218
 v138:=Tryz.zeroValue218
 t139:=Tryz.underlying219
 a139:=Tryz.isAgg219
 z139:=Tryz.sizeOf219
 v139:=Tryz.zeroValue219
 t146:=Tryz.underlying221
 a146:=Tryz.isAgg221
 z146:=Tryz.sizeOf221
 v146:=Tryz.zeroValue221
 g1:=by kernel_rfl
 g3:=by kernel_rfl
 g4:=by kernel_rfl }
open Go.RowKit Go.Lib in
theorem Tryz.strings_Split (s sep:ByteArray) (m:Int) (w:World) (hs:s.size<4294967281) (hm:w.cell? ⟨0,0,none⟩=some (.int .i64 m)) (h1:1≤sep.size) :
 Calls Tryz.prog 6 #[.string s,.string sep] w fun e w' =>
  e = .returned (.slice (some ⟨w.heap.size,0,none⟩) (Lib.countB s sep+1) (Lib.countB s sep+1))∧w'=w.alloc (.cells ((Lib.splitB sep 0 (Lib.countB s sep) s).map Value.string).toArray 9):=Any.strings_Split Tryz.lays146 (by kernel_rfl) s sep m w hs hm h1
def Tryz.lays155_ren:Go.Shelf.Ren:=⟨fun|155=>28|154=>62|138=>39|165=>43|143=>40|166=>8|197=>77|169=>10|195=>76|218=>78|240=>15|241=>81|219=>79|260=>109|276=>41|277=>117|217=>90|225=>110|224=>111|267=>112|266=>134|314=>144|n=>n,fun|9=>9|3=>3|4=>4|72=>40|0=>0|76=>44|105=>141|21=>21|5=>5|70=>37|20=>20|37=>38|75=>43|127=>65|164=>102|46=>176|119=>216|139=>219|138=>218|146=>221|51=>220|80=>47|n=>n,fun|1=>0|3=>1|4=>2|n=>n⟩
theorem Tryz.lays155:Go.Proofs.Lays.n155 Tryz.prog Tryz.lays155_ren:={
 mixed:=by kernel_rfl
 f138:=Tryz.func39.trans (congrArg some (by kernel_rfl))
 f143:=Tryz.func40.trans (congrArg some (by kernel_rfl))
 f154:=Tryz.func62.trans (congrArg some (by kernel_rfl))
 f155:=Tryz.func28.trans (congrArg some (by kernel_rfl))
 f165:=Tryz.func43.trans (congrArg some (by kernel_rfl))
 f166:=Tryz.func8.trans (congrArg some (by kernel_rfl))
 f169:=Tryz.func10.trans (congrArg some (by kernel_rfl))
 f195:=Tryz.func76.trans (congrArg some (by kernel_rfl))
 f197:=Tryz.func77.trans (congrArg some (by kernel_rfl))
 f217:=Tryz.func90.trans (congrArg some (by kernel_rfl))
 f218:=Tryz.func78.trans (congrArg some (by kernel_rfl))
 f219:=Tryz.func79.trans (congrArg some (by kernel_rfl))
 f224:=Tryz.func111.trans (congrArg some (by kernel_rfl))
 f225:=Tryz.func110.trans (congrArg some (by kernel_rfl))
 f240:=Tryz.func15.trans (congrArg some (by kernel_rfl))
 f241:=Tryz.func81.trans (congrArg some (by kernel_rfl))
 f260:=Tryz.func109.trans (congrArg some (by kernel_rfl))
 f266:=Tryz.func134.trans (congrArg some (by kernel_rfl))
 f267:=Tryz.func112.trans (congrArg some (by kernel_rfl))
 f276:=Tryz.func41.trans (congrArg some (by kernel_rfl))
 f277:=Tryz.func117.trans (congrArg some (by kernel_rfl))
 f314:=Tryz.func144.trans (congrArg some (by kernel_rfl))
 t0:=Tryz.underlying0
 a0:=Tryz.isAgg0
 z0:=Tryz.sizeOf0
 v0:=Tryz.zeroValue0
 t3:=Tryz.underlying3
 a3:=Tryz.isAgg3
 z3:=Tryz.sizeOf3
 v3:=Tryz.zeroValue3
 t4:=Tryz.underlying4
 a4:=Tryz.isAgg4
 z4:=Tryz.sizeOf4
 v4:=Tryz.zeroValue4
 t5:=Tryz.underlying5
 a5:=Tryz.isAgg5
 z5:=Tryz.sizeOf5
 v5:=Tryz.zeroValue5
 t9:=Tryz.underlying9
 a9:=Tryz.isAgg9
 z9:=Tryz.sizeOf9
 v9:=Tryz.zeroValue9
 t20:=Tryz.underlying20
 a20:=Tryz.isAgg20
 z20:=Tryz.sizeOf20
 v20:=Tryz.zeroValue20
 t21:=Tryz.underlying21
 a21:=Tryz.isAgg21
 z21:=Tryz.sizeOf21
 v21:=Tryz.zeroValue21
 t37:=Tryz.underlying38
 a37:=Tryz.isAgg38
 z37:=Tryz.sizeOf38
 v37:=Tryz.zeroValue38
 t46:=Tryz.underlying176
 a46:=Tryz.isAgg176
 z46:=Tryz.sizeOf176
 v46:=Tryz.zeroValue176
 t51:=Tryz.underlying220
 a51:=Tryz.isAgg220
 z51:=Tryz.sizeOf220
 v51:=Tryz.zeroValue220
 t70:=Tryz.underlying37
 a70:=Tryz.isAgg37
 z70:=Tryz.sizeOf37
 v70:=Tryz.zeroValue37
 t72:=Tryz.underlying40
 a72:=Tryz.isAgg40
 z72:=Tryz.sizeOf40
 v72:=Tryz.zeroValue40
 t75:=Tryz.underlying43
 a75:=Tryz.isAgg43
 z75:=Tryz.sizeOf43
 v75:=Tryz.zeroValue43
 t76:=Tryz.underlying44
 a76:=Tryz.isAgg44
 z76:=Tryz.sizeOf44
 v76:=Tryz.zeroValue44
 t105:=Tryz.underlying141
 a105:=Tryz.isAgg141
 z105:=Tryz.sizeOf141
 v105:=Tryz.zeroValue141
 t119:=Tryz.underlying216
 a119:=Tryz.isAgg216
 z119:=Tryz.sizeOf216
 t127:=Tryz.underlying65
 a127:=Tryz.isAgg65
 z127:=Tryz.sizeOf65
 v127:=Tryz.zeroValue65
 t138:=Tryz.underlying218
 a138:=Tryz.isAgg218
 z138:=Tryz.sizeOf218
 v138:=Tryz.zeroValue218
 t139:=Tryz.underlying219
 a139:=Tryz.isAgg219
 z139:=Tryz.sizeOf219
 v139:=Tryz.zeroValue219
 t146:=Tryz.underlying221
 a146:=Tryz.isAgg221
 z146:=Tryz.sizeOf221
 v146:=Tryz.zeroValue221
 t164:=Tryz.underlying102
 a164:=Tryz.isAgg102
 z164:=Tryz.sizeOf102
 v164:=Tryz.zeroValue102
 g1:=by kernel_rfl
 g3:=by kernel_rfl
 g4:=by kernel_rfl }
theorem Tryz.Builder_Extra_155:Builder.Extra Tryz.prog Tryz.lays155_ren:={
 sizeBuilder:=by kernel_rfl
 liesBuilder:=by kernel_rfl
 t5:=Tryz.underlying5
 a5:=Tryz.isAgg5
 z5:=Tryz.sizeOf5
 v5:=Tryz.zeroValue5
 infoByte:=by kernel_rfl
 cellsByte:=by kernel_rfl
 sizeByte:=by kernel_rfl
 neB5:=by decide }
open Go.RowKit Go.Lib in
theorem Tryz.strings_ReplaceAll (s old new:ByteArray) (m:Int) (w:World) (hs:s.size<4294967281) (hm:w.cell? ⟨0,0,none⟩=some (.int .i64 m)) (h1:1≤old.size) (hlen:s.size+Lib.countB s old*new.size≤140737488355328) :
 Calls Tryz.prog 28 #[.string s,.string old,.string new] w fun e w' =>
  e = .returned (.string ⟨(Lib.replaceAll s.data.toList old.data.toList new.data.toList).toArray⟩)∧Below w.heap.size w w':=Any.strings_ReplaceAll Tryz.lays155 Tryz.Builder_Extra_155 s old new m w hs hm h1 hlen
end Go.Proofs
namespace Go.Proofs.YtgggemkjaccbhaaGreatDoor
set_option linter.all false
open Go.RowKit
set_option maxRecDepth 100000
set_option maxHeartbeats 4000000
theorem zh5 {P:Program} {c:Bool} {f:FuncId} {args:List AV} {φ : Prop} {h:Nat→Chunk} {m:Nat} {K:Eff→Prop} (hc:c=false) (k:K ⟨.undef,[],0⟩):z2r P c f args φ h m K := .inr ⟨fun h=>absurd (hc.symm.trans h) (by decide),fun _=>k⟩
theorem Spec.wk0 {P:Program} {f:FuncId} {args:List AV} {hs hs':List Chunk} {r r':AV} (S:Spec P f args hs r hs') (hw:Wk r r'):Spec P f args hs r' hs':=by
 obtain⟨S0,S1,S⟩:=S
 refine⟨S0,S1,fun w F β vs M hv=>(S w F β vs M hv).mono ?_⟩
 rintro e w' ⟨v,F',β',h1,h2,h3,h4⟩
 exact⟨v,F',β',h1,h2,hw _ _ _ _ _ h3,h4⟩
def adD (ds:List Deferred) (a:Act):Act:={ a with defers:=a.defers++ds }
theorem zpg (ds:List Deferred) (a:Act) (d:Option Tmp) (v:Value):(adD ds a).put d v=adD ds (a.put d v):=by cases d<;>rfl
theorem ydt {P:Program} {o:Oper} (ds:List Deferred) {a:Act} {w:World} {K K':Act→World→Prop} {Q Q':Exit→Act→World→Prop} (hK:∀a w,K a w→K' (adD ds a) w) (hQ:∀e a w,Q e a w→Q' e (adD ds a) w) (h:o.wp P a w K Q):o.wp P (adD ds a) w K' Q':=by
 unfold Oper.wp at *
 have he:(adD ds a).eval=a.eval:=rfl
 rw[he]
 generalize (execOp a.eval o).run P w=r at h
 have hL:LetsOut Q→LetsOut Q':=fun⟨a,w,h⟩=>⟨_,w,hQ _ _ _ h⟩
 cases r with
 | ok n w' =>
  cases n<;>simp only[Oper.upon]at h ⊢
  case value v=>rw[zpg];exact hK _ _ h
  case skip=>rw[zpg];exact hK _ _ h
  case defer d =>
   have:=hK _ _ h
   cases hd:o.dst<;>(rw[hd]at this;exact this)
  case enter f args =>
   refine Calls.mono h fun e w'' he=>?_
   cases e with
   | returned v=>have h2:=hK _ _ he;rw[←zpg]at h2;exact h2
   | panicked c=>exact hQ _ _ _ he
   | outgrown=>exact hL he
  case row row args=>exact Rows.mono h fun v w'' he=>by rw[zpg];exact hK _ _ he
 | halt x w' =>
  cases x<;>simp only[Oper.upon]at h ⊢
  exact hQ _ _ _ h
def adQ (ds:List Deferred) (Q:Exit→Act→World→Prop) (e:Exit) (a:Act) (w:World):Prop:=∃a0,a=adD ds a0∧Q e a0 w
theorem znd {P:Program} {ops:Array Oper} {Q:Exit→Act→World→Prop} (ds:List Deferred):∀(l:List Oper) (a:Act) (w:World),wpList P ops Q l a w→wpList P ops (adQ ds Q) l (adD ds a) w
 | [],a,w,h=>⟨a,rfl,h⟩
 | o::r,a,w,h=>by
  simp only[wpList]at h ⊢
  have ht:(adD ds a).tmps=a.tmps:=rfl
  rw[ht]
  split
  ·rename_i hw
   rw[if_pos hw]at h
   rcases h with h|⟨h1,a0,w0,h2⟩
   ·exact .inl (ydt ds (fun a w h=>znd ds r a w h) (fun e a w h=>⟨a,rfl,h⟩) h)
   ·exact .inr ⟨h1,_,w0,a0,rfl,h2⟩
  ·rename_i hw
   rw[if_neg hw]at h
   rw[zpg]
   exact znd ds r _ w h
def ykl (P:Program) (o:Oper):Prop:=∀(a:Act) (w w':World) (d:Deferred),(execOp a.eval o).run P w ≠ .ok (.defer d) w'
theorem zfr {P:Program} (s:Sem Value) (w w':World) (d:Deferred):(do pure (Next.value (←s)):Sem Next).run P w ≠ .ok (.defer d) w':=by
 rw[Sem.run_bind]
 cases s.run P w<;>simp[Result.andThen]
theorem zif {P:Program} (s:Sem Unit) (w w':World) (d:Deferred):(do s;pure Next.skip:Sem Next).run P w ≠ .ok (.defer d) w':=by
 rw[Sem.run_bind]
 cases s.run P w<;>simp[Result.andThen]
def ndQ (ds:List Deferred) (Q:Exit→Act→World→Prop) (e:Exit) (a:Act) (w:World):Prop:=Q e a w∧(e ≠ .outgrown→a.defers=ds)
theorem yk7 {P:Program} {o:Oper} (hn:ykl P o) {a:Act} {w:World} {K K':Act→World→Prop} {Q:Exit→Act→World→Prop} (hK:∀a' w,a'.defers=a.defers→K a' w→K' a' w) (h:o.wp P a w K Q):o.wp P a w K' (ndQ a.defers Q):=by
 unfold Oper.wp at *
 have hnd:=hn a w
 generalize (execOp a.eval o).run P w=r at h hnd
 have hL:LetsOut Q→LetsOut (ndQ a.defers Q):=fun⟨a,w,h⟩=>⟨a,w,h,fun h=>absurd rfl h⟩
 have hp:∀d v,(a.put d v).defers=a.defers:=fun d v=>by cases d<;>rfl
 cases r with
 | ok n w' =>
  cases n<;>simp only[Oper.upon]at h ⊢
  case value v=>exact hK _ _ (hp _ _) h
  case skip=>exact hK _ _ (hp _ _) h
  case defer d=>exact absurd rfl (hnd w' d)
  case enter f args =>
   refine Calls.mono h fun e w'' he=>?_
   cases e with
   | returned v=>exact hK _ _ (hp _ _) he
   | panicked c=>exact⟨he,fun _=>rfl⟩
   | outgrown=>exact hL he
  case row row args=>exact Rows.mono h fun v w'' he=>hK _ _ (hp _ _) he
 | halt x w' =>
  cases x<;>simp only[Oper.upon]at h ⊢
  exact⟨h,fun _=>rfl⟩
theorem znc {P:Program} {ops:Array Oper} {Q:Exit→Act→World→Prop} : ∀(l:List Oper) (a:Act) (w:World),(∀o∈l,ykl P o)→wpList P ops Q l a w→wpList P ops (ndQ a.defers Q) l a w
 | [],a,w,_,h=>⟨h,fun _=>rfl⟩
 | o::r,a,w,hn,h=>by
  simp only[wpList]at h ⊢
  split
  ·rename_i hw
   rw[if_pos hw]at h
   rcases h with h|⟨h1,a0,w0,h2⟩
   ·refine .inl (yk7 (hn o (List.mem_cons_self ..)) (fun a' w he h=>?_) h)
    rw[←he]
    exact znc r a' w (fun o ho=>hn o (List.mem_cons_of_mem _ ho)) h
   ·exact .inr ⟨h1,a0,w0,h2,fun h=>absurd rfl h⟩
  ·rename_i hw
   rw[if_neg hw]at h
   have hp:(a.put o.dst undef).defers=a.defers:=by cases o.dst<;>rfl
   rw[←hp]
   exact znc r _ w (fun o ho=>hn o (List.mem_cons_of_mem _ ho)) h
theorem z6j {P:Program} {ops:Array Oper} {Q:Exit→Act→World→Prop} (ds:List Deferred) {l:List Oper} {a:Act} {w:World} (hn:∀o∈l,ykl P o) (h:wpList P ops Q l { a with defers := [] } w) (ha:a.defers=ds):wpList P ops (adQ ds (ndQ [] Q)) l a w:=by
 have e:a=adD ds { a with defers := [] }:=by cases a;simp only at ha;subst ha;rfl
 have h2:=znd ds _ _ _ (znc _ _ _ hn h)
 rw[←e]at h2;exact h2
def ykj (H:Hist) (ds:List Deferred) (Q:Exit→St→Prop) (e:Exit) (a:Act) (w:World):Prop:=a.defers=ds∧zix H Q e { a with defers := [] } w
theorem yaa {H:Hist} {ds:List Deferred} {Q:Exit→St→Prop} (hQ:∀s,¬Q .outgrown s) {e:Exit} {a:Act} {w:World} (h:adQ ds (ndQ [] (zix H Q)) e a w):ykj H ds Q e a w:=by
 obtain⟨a0,rfl,h1,h2⟩:=h
 by_cases he:e = .outgrown
 ·subst he
  obtain⟨s,F,β,_,h3⟩:=h1
  exact absurd h3 (hQ s)
 ·have h5:=h2 he
  refine⟨by show a0.defers++ds=ds;rw[h5];rfl,?_⟩
  have:({ adD ds a0 with defers := [] } : Act)=a0:=by cases a0;simp only at h5;subst h5;rfl
  rw[this];exact h1
section
variable {P : Program} {H : Hist} {s : St} {F : Nat → Prop} {β : Nat → Option Bind} {a : Act} {w : World}
theorem z4z {ops:Array Oper} {Q:Exit→St→Prop} (C:Conc H s F β a w) (h:yhq P H.nt H.k ops Q s):wpList P ops (zix H Q) ops.toList a w:=by
 obtain⟨s2,hto,h⟩:=h
 obtain⟨F2,β2,C2⟩:=hto H F β a w rfl C
 rcases h with h|⟨i,h⟩
 ·exact ziw ops.toList _ F2 β2 a w h C2
 ·exact zk5 ops.toList i _ F2 β2 a w h C2
theorem zji {ops:Array Oper} {Q Q':Exit→Act→World→Prop} (hQ:∀e a w,Q e a w→Q' e a w):∀(l:List Oper) (a:Act) (w:World),wpList P ops Q l a w→wpList P ops Q' l a w
 | [],a,w,h=>hQ _ _ _ h
 | o::r,a,w,h=>by
  simp only[wpList]at h ⊢
  split
  ·rename_i hw
   rw[if_pos hw]at h
   rcases h with h|⟨h1,a0,w0,h2⟩
   ·refine .inl ?_
    have:=ydt [] (a:=a) (K':=fun a w=>wpList P ops Q' r a w) (Q':=Q') (fun a w h=>by rw[show adD [] a=a by unfold adD;rw[List.append_nil]];exact zji hQ r a w h) (fun e a w h=>by rw[show adD [] a=a by unfold adD;rw[List.append_nil]];exact hQ _ _ _ h) h
    rw[show adD [] a=a by unfold adD;rw[List.append_nil]]at this;exact this
   ·exact .inr ⟨h1,a0,w0,hQ _ _ _ h2⟩
  ·rename_i hw
   rw[if_neg hw]at h
   exact zji hQ r _ w h
theorem zug {id:Nat} {ops:Array Oper} {Q:Exit→St→Prop} (ds:List Deferred) (hn:∀o∈ops.toList,ykl P o) (hQ:∀s,¬Q .outgrown s) (ha:a.defers=ds) (C:Conc H s F β { a with defers := [] } w) (h:yhq P H.nt H.k ops Q s) :
 (Code.region id ops false).wp P (ykj H ds Q) a w :=
 wp_region_list (zji (fun _ _ _ h=>yaa hQ h) _ _ _ (z6j ds hn (z4z C h) ha))
end
theorem zr2 {P:Program} {ops:Array Oper} {Q:Exit→Act→List Frame→World→Prop} {a:Act} {cs:List Frame} {w w':World} {i:Nat} {rest:List Nat} {o:Oper} (ho:ops[i]? = some o) (hg:o.guard=none) (v:Value) (hr:(execOp a.eval o).run P w = .ok (.value v) w')
 (h:wpOpsS P ops Q rest (a.put o.dst v) cs w'):wpOpsS P ops Q (i::rest) a cs w:=by
 simp only[wpOpsS,ho]
 rw[if_pos (by simp[Region.wanted,hg]),hr]
 exact h
theorem ye7 {P:Program} {ops:Array Oper} {Q:Exit→Act→List Frame→World→Prop} {a:Act} {cs cs':List Frame} {w:World} {i:Nat} {rest:List Nat} {o:Oper} (ho:ops[i]? = some o) (hg:o.guard=none) (v:Value) (hr:(execOp a.eval o).run P w = .ok .recover w) (hc:recoverD cs=some (v,cs'))
 (h:wpOpsS P ops Q rest (a.put o.dst v) cs' w):wpOpsS P ops Q (i::rest) a cs w:=by
 simp only[wpOpsS,ho]
 rw[if_pos (by simp[Region.wanted,hg]),hr]
 simp only[hc];exact h
theorem yah {P:Program} {ops:Array Oper} {Q:Exit→Act→List Frame→World→Prop} {a:Act} {cs:List Frame} {w:World} {i:Nat} {rest:List Nat} {o:Oper} (ho:ops[i]? = some o) (hg:o.guard=none) (hr:(execOp a.eval o).run P w = .ok .recover w) (hc:recoverD cs=none)
 (h:wpOpsS P ops Q rest (a.put o.dst .nilIface) cs w):wpOpsS P ops Q (i::rest) a cs w:=by
 simp only[wpOpsS,ho]
 rw[if_pos (by simp[Region.wanted,hg]),hr]
 simp only[hc];exact h
theorem zj1 {P:Program} {ops:Array Oper} {Q':Exit→Act→World→Prop} {Q:Exit→Act→List Frame→World→Prop} {cs:List Frame} (hL:∀a w,¬Q' .outgrown a w) (hQ:∀e a w,Q' e a w→Q e a cs w):∀(l:List Nat) (a:Act) (w:World),wpOps P ops Q' l a w→wpOpsS P ops Q l a cs w
 | [],a,w,h=>hQ _ _ _ h
 | i::r,a,w,h=>by
  simp only[wpOps]at h
  simp only[wpOpsS]
  cases ho:ops[i]? with
  | none=>simp only[ho]at h ⊢;exact zj1 hL hQ r a w h
  | some o =>
   simp only[ho]at h ⊢
   split
   ·rename_i hw
    rw[if_pos hw]at h
    rcases h with h|⟨_,a0,w0,h2⟩
    ·have hm:=ydt [] (a:=a) (K':=fun a w=>wpOpsS P ops Q r a cs w) (Q':=fun e a w=>Q e a cs w) (fun a w h=>by rw[show adD [] a=a by unfold adD;rw[List.append_nil]];exact zj1 hL hQ r a w h) (fun e a w h=>by rw[show adD [] a=a by unfold adD;rw[List.append_nil]];exact hQ _ _ _ h) h
     rw[show adD [] a=a by unfold adD;rw[List.append_nil]]at hm
     unfold Oper.wp at hm
     split
     ·rename_i w' hr
      rw[hr]at hm
      exact hm.elim
     ·exact hm
    ·exact absurd h2 (hL _ _)
   ·rename_i hw
    rw[if_neg hw]at h
    exact zj1 hL hQ r _ w h
theorem yaf {P:Program} {ops:Array Oper} {Q:Exit→Act→World→Prop} {a:Act} {w:World} (k:Nat) {l:List Nat} (h:wpList P ops Q (ops.toList.drop k) a w) (hl:List.range' k (ops.toList.drop k).length=l):wpOps P ops Q l a w:=by
 rw[←hl,wpOps_eq_wpList (ops.toList.drop k) k (fun j=>by rw[List.getElem?_drop,Array.getElem?_toList])]
 exact h
theorem zxv {H:Hist} {s:St} {F:Nat→Prop} {β : Nat→Option Bind} {a:Act} {w:World} (C:Conc H s F β a w) (ids:List Nat) {hs':List Chunk} (h1:ids.take H.k=List.range H.k) (h2:ids.Nodup) (h3:hsW ids (zan s.h) ids hs') :
 ∃F' β',MemOk H.W H.N (· < hs'.length) F' β' (nth hs') w∧(∀b,H.F b→F' b)∧(∀b,F' b→H.F b∨H.W.heap.size≤b∨H.N b)∧(∀i bd,i<H.k → β' i=some bd→∃bs,H.β i=some ⟨bd.v,bd.b,bd.n,bd.sz,bs⟩):=by
 have M':=zgx C.m h2 h3
 obtain⟨hl,_⟩:=zvf h3
 rw[hl]at M'
 refine⟨_,_,M',fun b hb => .inl (C.f b hb),fun b hb=>?_,fun i bd hi hb=>?_⟩
 ·rcases z0h C.m hb with h|h
  ·exact C.g b h
  ·exact .inr h
 ·have:=zms h1 hi
  simp only[zkd,this]at hb
  exact C.e i bd hi hb
theorem zl4 {a:Act} (h:a.defers = []):({ a with defers := [] } : Act)=a:=by cases a;simp only at h;subst h;rfl
def yhp (P:Program) (f:FuncId) (args:List AV) (hs:List Chunk) (u u2:FrameMode) (hs':List Chunk):Prop :=
 hs.length≤hs'.length∧∀(w:World) (F:Nat→Prop) (β : Nat→Option Bind) (vs:List Value),MemOk w (inB β) (· < hs.length) F β (nth hs) w→RelL (· < hs.length) w F β args vs →
  CallsD P f vs.toArray u w fun e u' w'=>e = .returned (.tuple #[])∧u'=u2∧∃F' β',MemOk w (inB β) (· < hs'.length) F' β' (nth hs') w'∧(∀b,F b→F' b) ∧
   (∀b,F' b→F b∨w.heap.size≤b∨inB β b)∧(∀i bd,i<hs.length → β' i=some bd→∃bs,β i=some ⟨bd.v,bd.b,bd.n,bd.sz,bs⟩)
theorem yns {P:Program} {H:Hist} {s:St} {F:Nat→Prop} {β : Nat→Option Bind} {a:Act} {w:World} (C:Conc H s F β a w) {f:FuncId} {args args':List AV} {ids:List Nat} {u u2:FrameMode} {hs':List Chunk} (hnd:ids.Nodup) (hwk:WkL (cvL ids noC args) args') (hal:∀id∈ids,zan s.h id ≠ .dead)
 (S:yhp P f args' (ids.map fun id=>cvC ids noC (zan s.h id)) u u2 hs') {vs:List Value} (hv:RelL (· < s.n) w F β args vs) :
 CallsD P f vs.toArray u w fun e u' w'=>e = .returned (.tuple #[])∧u'=u2∧∃F' β',Conc H ⟨s.t,zts ids s.n 0 hs'++s.h,s.n+(hs'.length-ids.length)⟩ F' β' a w':=by
 obtain⟨hle,S⟩:=S
 simp only[List.length_map]at hle S
 have M1:=(zvw (hT:=noC) C.m (fun id hd=>(hd rfl).elim) ids hnd).here
 have hv1:=hwk.run (zf8 (hT:=noC) C.m (fun id hd=>(hd rfl).elim) ids args vs hv)
 rw[z0g]at M1 hv1
 refine(S w F (zkd ids β) vs M1 hv1).mono ?_
 rintro e u' w' ⟨rfl,rfl,F',β',M2,hF,hF',hβ⟩
 have St:=znt C.m hnd hal hle (m:=s.n) (fun i h1 _ h3=>by omega) (r := .undef) (v:=undef) M2 (by simp only[RelA]) hF hF' (fun i bd hi=>hβ i bd hi)
 obtain⟨F2,β2,C2⟩:=C.step St (d:=none) trivial
 exact⟨rfl,rfl,F2,β2,C2⟩
theorem z4w {P:Program} {H:Hist} {s:St} {F:Nat→Prop} {β : Nat→Option Bind} {a:Act} {w:World} (C:Conc H s F β a w) {fn:Func} {rs:List ResultVar} (hrs:fn.results=rs.toArray) {φ : Prop} {x:AV} (h:zgh P (look s.t) (zan s.h) rs=some (φ,[x])) (hφ : φ) :
 ∃v,(results fn a.tmps).run P w = .ok v w∧RelA (· < s.n) w F β x v:=by
 obtain⟨vs,h5,h6⟩:=zru C rs φ [x] h hφ
 simp only[RelL]at h6
 obtain⟨v,us,rfl,h7,rfl⟩:=h6
 refine⟨v,?_,h7⟩
 rw[zqb,hrs,List.mapM_toArray]
 simp only[Sem.run_bind,Sem.run_map,h5,Result.andThen_ok,Sem.run_pure]
 simp
theorem yjc {P:Program} {f:FuncId} (hf:zhk P f) (args cap:Array Value) (w:World):(invoke (.fn (.func f) cap) args).run P w = .ok (.enter f (args++cap)) w:=by
 obtain⟨fn,h1,h2,h3⟩:=hf
 have h4:fn.body.isNone=false:=by cases hb:fn.body<;>simp_all
 simp only[Sem.run_bind,Sem.run_pure,Result.andThen_ok,invoke,callFunc,run_program,h1,h3,Bool.false_eq_true,if_false,h4]
theorem yoi {P:Program} {fn:Func} {R:Ending→World→Prop} {H H':Hist} {s:St} {F:Nat→Prop} {β : Nat→Option Bind} {a a0:Act} {w:World} {f:FuncId} {p:Value} {id:Nat} {c c2:Chunk} {u u2:FrameMode} (C:Conc H' s F β a0 w) (ha0:a0.tmps=a.tmps)
 (hW:H'.W=H.W) (hN:H'.N=H.N) (hF:H'.F=H.F) (hnt:H'.nt=H.nt) (hk:H.k≤H'.k) (hi:id<H'.k) (hβ : ∀i bd,i<H.k→H'.β i=some bd→∃bs,H.β i=some ⟨bd.v,bd.b,bd.n,bd.sz,bs⟩) (hp:RelA (· < id+1) w F H'.β (.ptr id 0 0) p) (hu:u ≠ .run)
 (hc:zan s.h id=c) (hcd:c ≠ .dead) (hcc:cvC [id] noC c=c) (hcu:zts [id] s.n 0 [c2] = [(id,c2)]) (hf:zhk P f) (S:yhp P f [.ptr 0 0 0] [c] u u2 [c2])
 (h:∀F' β' w',Conc H ⟨s.t,(id,c2)::s.h,s.n⟩ F' β' a0 w'→Leaves P fn a.tmps R [] (settle u2) w'):Leaves P fn a.tmps R [{ target := .fn (.func f) #[p],args := #[] }] u w:=by
 have e1:(invoke (.fn (.func f) #[p]) #[]).run P w = .ok (.enter f #[p]) w:=by
  rw[yjc hf];simp
 refine leaves_cons hu e1 ?_
 have hp4:RelA (· < s.n) w F β (.ptr id 0 0) p:=by
  simp only[RelA]at hp ⊢
  refine⟨Nat.lt_of_lt_of_le hi C.k,hp.2.1,fun bd hb=>?_⟩
  obtain⟨bs,h1⟩:=C.e id bd hi hb
  exact hp.2.2 ⟨_,_,_,_,bs⟩ h1
 have hcvl:cvL [id] noC [.ptr id 0 0] = [.ptr 0 0 0]:=by simp[cvL,cv,ix,ix.go]
 have cd:=yns C (args := [.ptr id 0 0]) (args' := [.ptr 0 0 0]) (ids := [id]) (f:=f) (u:=u) (u2:=u2) (hs' := [c2]) (by simp) (by rw[hcvl];exact WkL.refl _) (fun i hi=>by rw[List.mem_singleton]at hi;rw[hi,hc];exact hcd) (by
  simp only[List.map_cons,List.map_nil,hc,hcc];exact S) (vs := [p]) (by simp only[RelL];exact⟨_,_,rfl,hp4,rfl⟩)
 refine cd.mono ?_
 rintro e u' w' ⟨rfl,rfl,F',β',C'⟩
 refine h F' β' w' ?_
 rw[hcu]at C'
 exact⟨C'.t,by rw[←hW,←hN];exact C'.m,by rw[←hnt];exact C'.nt,by rw[←hW];exact C'.d,by rw[←hF];exact C'.f,by rw[←hF,←hW,←hN];exact C'.g,fun i bd hi hb=>by
  obtain⟨bs,h1⟩:=C'.e i bd (Nat.lt_of_lt_of_le hi hk) hb
  obtain⟨bs2,h2⟩:=hβ i _ hi h1
  exact⟨bs2,h2⟩,Nat.le_trans hk C'.k⟩
theorem zw8 {P:Program} {f:FuncId} (hf:zhk P f) {o:Oper} {args:Array Operand} {ts:Array TypeId} (ho:o.op = .call ⟨.value (.func f),args,ts⟩):ykl P o:=fun a w w' d h=>by
 rw[Calls.exec hf ho (x := .func f) (fs := #[]) (cs := #[]) rfl]at h
 simp at h
end Go.Proofs.YtgggemkjaccbhaaGreatDoor
