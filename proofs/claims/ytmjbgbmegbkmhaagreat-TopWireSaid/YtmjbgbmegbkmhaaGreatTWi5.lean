/- Lemmas for the proof of topWire.proved. -/
import Derived.Test.YtmjbgbmegbkmhaaGreatTWi4
import Derived.Lib.VarintBits
import Derived.Lib.ConvBytes
import Derived.Laws.IdiomStrings
import Derived.Shelf.Strings.Builder1
import Derived.Shelf.Small.Wraps
import Derived.Shelf.Strings.BuilderF
import Derived.Shelf.Bits.Mul64
import Derived.Ground.Names2Prog
import Derived.Shelf.Slices.SearchI
import Derived.Shelf.Slices.Delete
import Derived.Test.YtmjbgbmegbkmhaaGreatProg
import Derived.Deep.QuietTactic
import Derived.BigQuiet
import Derived.Laws.Concat
import Derived.Lib.Zigzag
import Derived.Laws.BytesString
import Derived.Lib.Varint
import Derived.Deep.RegionHeld3
import Derived.Laws.Externs
import Derived.Laws.IdiomCopy
import Derived.Shelf.Spec.SlicesInsert
import Derived.Shelf.Spec.SlicesInsertGrow
import Derived.Shelf.Slices.Empties
namespace Go.Proofs.YtmjbgbmegbkmhaaGreat
set_option linter.all false
open Go.RowKit
theorem RelL.setAt {U F:Nat→Prop} {β : Nat→Option Bind} {w:World} {y:AV} : ∀ {cs:List AV} {us:List Value} (j:Nat),RelL U w F β cs us→(∀u,us[j]? = some u→RelA U w F β y u)→RelL U w F β (cs.set j y) us
 | [],us,j,h,_=>by simpa using h
 | x::r,us,j,h,hy=>by
  simp only[RelL]at h
  obtain⟨u,us',rfl,h1,h2⟩:=h
  cases j with
  | zero=>simp only[List.set_cons_zero,RelL];exact⟨u,us',rfl,hy u rfl,h2⟩
  | succ j=>simp only[List.set_cons_succ,RelL];exact⟨u,us',rfl,h1,RelL.setAt j h2 (fun v hv=>hy v (by simpa using hv))⟩
theorem To.nilC {k:Nat} {s:St} (id j e sz tt:Nat) (cs:List AV) (hc:zak s.h id = .blk tt cs) (hj:cs[j]? = some (.c (.v (.slice none 0 0)))):ToK k s ⟨s.t,(s.n,.row e sz [])::(id,.blk tt (cs.set j (.own s.n)))::s.h,s.n+1⟩:=by
 intro H F β a w hk C
 obtain⟨bd0,hb1,hb2⟩:=C.m.ch id (by rw[hc];simp)
 have hidn:id≠s.n:=fun h=>absurd (C.m.used _ _ hb1) (by rw[h];exact Nat.lt_irrefl _)
 obtain⟨M,E⟩:=C.m.step (w':=w) (h':=zak ((s.n,.row e sz [])::(id,.blk tt (cs.set j (.own s.n)))::s.h)) (β':=zax β s.n (some ⟨.slice none 0 0,none,0,sz,[]⟩)) (F':=F) (U':=(· < s.n+1)) (fun i=>i=s.n∨i=id)
  (fun i hi=>by simp only[not_or]at hi;simp[zax,Ne.symm hi.1]) (fun i hi=>by simp only[not_or]at hi;simp[zak,Ne.symm hi.1,Ne.symm hi.2]) rfl rfl rfl (Nat.le_refl _) (fun _ _ _=>rfl) (fun i hi=>Nat.lt_succ_of_lt hi) (fun b hb=>hb)
  (fun b hb=>⟨C.m.fin b hb,.inl hb⟩)
  (fun i bd' hi hu hb=>by
   rcases hi with rfl|rfl
   ·exact absurd hu (Nat.lt_irrefl _)
   ·exact⟨_,by simpa[zax,Ne.symm hidn]using hb⟩)
  (fun i bd' hi hb=>by
   rcases hi with rfl|rfl
   ·simp only[zax,if_true,Option.some.injEq]at hb
    subst hb
    exact⟨Nat.lt_succ_self _,fun b hb=>by have:=Bind.has_nil hb;simp at this⟩
   ·have hb' : β i=some bd':=by simpa[zax,Ne.symm hidn]using hb
    refine⟨Nat.lt_succ_of_lt (C.m.used _ _ hb'),fun b hbb => ?_⟩
    obtain⟨p1,p2,p3⟩:=C.m.off _ _ _ hb' hbb
    exact⟨p2,p1,.inr ⟨i,bd',.inr rfl,hb',hbb⟩⟩)
  (fun i j' bi bj b hi hj' hbi hbj h1 h2=>by
   rcases hi with rfl|rfl<;>rcases hj' with rfl|rfl
   ·rfl
   ·simp only[zax,if_true,Option.some.injEq]at hbi;subst hbi;have:=Bind.has_nil h1;simp at this
   ·simp only[zax,if_true,Option.some.injEq]at hbj;subst hbj;have:=Bind.has_nil h2;simp at this
   ·rfl)
  (fun E i hi _=>by
   rcases hi with rfl|rfl
   ·refine⟨⟨.slice none 0 0,none,0,sz,[]⟩,by simp[zax],?_⟩
    simp only[zak,if_true,ChOk]
    simp
   ·refine⟨bd0,by simpa[zax,Ne.symm hidn]using hb1,?_⟩
    have hb2':=ChOk.mono E (fun g _=>rfl) hb2
    rw[hc]at hb2'
    simp only[zak,if_true,Ne.symm hidn,if_false]
    obtain⟨q1,q2,g,vs,q3,q4,q5,q6,q7⟩:=hb2'
    refine⟨by rw[List.length_set];exact q1,q2,g,vs,q3,q4,q5,RelL.setAt j q6 (fun u hu => ?_),q7⟩
    obtain⟨u',hu',hr⟩:=q6.at j _ hj
    rw[hu]at hu';cases hu'
    rw[relC]at hr
    simp only[RelA]
    rw[hr.1]
    refine⟨Nat.lt_succ_self _,rfl,fun bd hb => ?_⟩
    simp only[zax,if_true,Option.some.injEq]at hb
    subst hb;rfl)
 refine⟨F,zax β s.n (some ⟨.slice none 0 0,none,0,sz,[]⟩),fun t'=>RelA.mono E _ _ (C.t t'),M,C.nt,C.d,C.f,C.g,fun i bd' hi hb => ?_,Nat.le_succ_of_le C.k⟩
 refine C.e i bd' hi ?_
 have:s.n≠i:=by have:=C.k;omega
 simpa[zax,this]using hb
theorem To.cutC {k:Nat} {s:St} (bid j id l e sz tt:Nat) (cs:List AV) (xs:List (List PV)) (hc:zak s.h bid = .blk tt cs) (hj:cs[j]? = some (.view id 0 l)) (hr:zak s.h id = .row e sz xs) (hl:l≤xs.length) :
 ToK k s ⟨s.t,(s.n,.row e sz (xs.take l))::(id,.dead)::(bid,.blk tt (cs.set j (.own s.n)))::s.h,s.n+1⟩:=by
 intro H F β a w hk C
 obtain⟨bd0,hb1,hb2⟩:=C.m.ch bid (by rw[hc];simp)
 obtain⟨bd1,hr1,hr2⟩:=C.m.ch id (by rw[hr];simp)
 have hbn:bid≠s.n:=fun h=>absurd (C.m.used _ _ hb1) (by rw[h];exact Nat.lt_irrefl _)
 have hin:id≠s.n:=fun h=>absurd (C.m.used _ _ hr1) (by rw[h];exact Nat.lt_irrefl _)
 have hbi:bid≠id:=fun h=>by rw[h,hr]at hc;simp at hc
 have hb2':=hb2
 rw[hc]at hb2'
 obtain⟨q1,q2,g0,vs,q3,q4,q5,q6,q7⟩:=hb2'
 obtain⟨u,hu,hv⟩:=q6.at j _ hj
 simp only[RelA]at hv
 obtain⟨_,hone,hv⟩:=hv
 obtain⟨va,vc,rfl,hvl,hvc,hvm,hvg,hvn⟩:=hv bd1 hr1
 obtain⟨vn,hvn⟩:=hvn trivial
 have hr3:=hr2
 rw[hr]at hr3
 obtain⟨p1,p2,p3,p4⟩:=hr3
 have nb:∃b,(⟨.slice va l vc,b,l,sz,[]⟩:Bind).b=bd1.b∧((b=none∧l=0∧(Value.slice va l vc) = .slice none 0 0)∨∃g cur,b=some g∧va=some ⟨g,0,none⟩∧w.heap[g]? = some (.cells cur e (0,0))∧l≤vc∧vc≤maxLen∧cur.size=vc*sz∧RelE w F g sz 0 (xs.take l)):=by
  refine⟨bd1.b,rfl,?_⟩
  rcases p4 with ⟨h1,h2,h3⟩|⟨g,cap,cur,h1,h2,h3,h4,h5,h6,h7⟩
  ·rw[h3]at hvn
   simp only[Value.slice.injEq]at hvn
   obtain⟨rfl,_,rfl⟩:=hvn
   have:l=0:=by subst h2;simpa using hl
   subst this
   exact .inl ⟨h1,rfl,rfl⟩
  ·rw[h2]at hvn
   simp only[Value.slice.injEq]at hvn
   obtain⟨rfl,_,rfl⟩:=hvn
   refine .inr ⟨g,cur,h1,rfl,h3,hvc,hvm,h6,?_⟩
   refine RelE.of fun i cs' hi => ?_
   rw[List.getElem?_take]at hi
   split at hi
   ·exact RelE.at h7 i cs' hi
   ·simp at hi
 obtain⟨nbb,hnb,hnc⟩:=nb
 obtain⟨M,E⟩:=C.m.step (w':=w) (h':=zak ((s.n,.row e sz (xs.take l))::(id,.dead)::(bid,.blk tt (cs.set j (.own s.n)))::s.h)) (β':=zax (zax β id none) s.n (some ⟨.slice va l vc,nbb,l,sz,[]⟩)) (F':=F) (U':=(· < s.n+1)) (fun i=>i=s.n∨i=id∨i=bid)
  (fun i hi=>by simp only[not_or]at hi;simp[zax,Ne.symm hi.1,Ne.symm hi.2.1]) (fun i hi=>by simp only[not_or]at hi;simp[zak,Ne.symm hi.1,Ne.symm hi.2.1,Ne.symm hi.2.2]) rfl rfl rfl (Nat.le_refl _) (fun _ _ _=>rfl) (fun i hi=>Nat.lt_succ_of_lt hi) (fun b hb=>hb)
  (fun b hb=>⟨C.m.fin b hb,.inl hb⟩)
  (fun i bd' hi hu hb=>by
   rcases hi with rfl|rfl|rfl
   ·exact absurd hu (Nat.lt_irrefl _)
   ·simp[zax,Ne.symm hin]at hb
   ·exact⟨_,by simpa[zax,Ne.symm hbn,Ne.symm hbi]using hb⟩)
  (fun i bd' hi hb=>by
   rcases hi with rfl|rfl|rfl
   ·simp only[zax,if_true,Option.some.injEq]at hb
    subst hb
    refine⟨Nat.lt_succ_self _,fun b hbb => ?_⟩
    have hbb':bd1.b=some b:=by rw[←hnb];exact Bind.has_nil hbb
    obtain⟨r1,r2,r3⟩:=C.m.off _ _ _ hr1 (.inl hbb')
    exact⟨r2,r1,.inr ⟨id,bd1,.inr (.inl rfl),hr1,.inl hbb'⟩⟩
   ·simp[zax,Ne.symm hin]at hb
   ·have hb' : β i=some bd':=by simpa[zax,Ne.symm hbn,Ne.symm hbi]using hb
    refine⟨Nat.lt_succ_of_lt (C.m.used _ _ hb'),fun b hbb => ?_⟩
    obtain⟨p1,p2,p3⟩:=C.m.off _ _ _ hb' hbb
    exact⟨p2,p1,.inr ⟨i,bd',.inr (.inr rfl),hb',hbb⟩⟩)
  (fun i j' bi bj b hi hj' hbi2 hbj h1 h2=>by
   have old:∀i' bd',i'=bid→(zax (zax β id none) s.n (some ⟨.slice va l vc,nbb,l,sz,[]⟩)) i'=some bd' → β bid=some bd':=by
    intro i' bd' h hb;subst h;simpa[zax,Ne.symm hbn,Ne.symm hbi]using hb
   rcases hi with rfl|rfl|rfl<;>rcases hj' with rfl|rfl|rfl
   ·rfl
   ·simp[zax,Ne.symm hin]at hbj
   ·simp only[zax,if_true,Option.some.injEq]at hbi2;subst hbi2
    have:=C.m.dis id j' bd1 bj b hr1 (old _ _ rfl hbj) (.inl (by rw[←hnb];exact Bind.has_nil h1)) h2
    exact absurd this.symm hbi
   ·simp[zax,Ne.symm hin]at hbi2
   ·rfl
   ·simp[zax,Ne.symm hin]at hbi2
   ·simp only[zax,if_true,Option.some.injEq]at hbj;subst hbj
    have:=C.m.dis i id bi bd1 b (old _ _ rfl hbi2) hr1 h1 (.inl (by rw[←hnb];exact Bind.has_nil h2))
    exact absurd this hbi
   ·simp[zax,Ne.symm hin]at hbj
   ·rfl)
  (fun E i hi hd=>by
   rcases hi with rfl|rfl|rfl
   ·refine⟨⟨.slice va l vc,nbb,l,sz,[]⟩,by simp[zax],?_⟩
    simp only[zak,if_true,ChOk]
    refine⟨⟨trivial,trivial⟩,by rw[List.length_take];omega,fun cs' hcs=>p3 cs' (List.mem_of_mem_take hcs),?_⟩
    rcases hnc with ⟨h1,h2,h3⟩|⟨g,cur,h1,h2,h3,h4,h5,h6,h7⟩
    ·exact .inl ⟨h1,by rw[h2];rfl,h3⟩
    ·refine .inr ⟨g,vc,cur,h1,?_,h3,?_,h5,h6,h7⟩
     ·rw[h2,List.length_take,Nat.min_eq_left hl]
     ·rw[List.length_take,Nat.min_eq_left hl];exact h4
   ·simp[zak,Ne.symm hin]at hd
   ·refine⟨bd0,by simpa[zax,Ne.symm hbn,Ne.symm hbi]using hb1,?_⟩
    have hb3:=ChOk.mono E (fun g _=>rfl) hb2
    rw[hc]at hb3
    simp only[zak,if_true,Ne.symm hbn,Ne.symm hbi,if_false]
    obtain⟨q1,q2,g,vs',q3',q4,q5',q6',q7⟩:=hb3
    have hg:g=g0:=by rw[q3]at q3';exact(Option.some.inj q3').symm
    subst hg
    have hvs:vs'=vs:=by rw[q5]at q5';simpa using q5'.symm
    subst hvs
    refine⟨by rw[List.length_set];exact q1,q2,g,vs',q3',q4,q5',RelL.setAt j q6' (fun u hu2 => ?_),q7⟩
    rw[hu]at hu2
    obtain rfl:=Option.some.inj hu2
    simp only[RelA]
    refine⟨Nat.lt_succ_self _,rfl,fun bd hb => ?_⟩
    simp only[zax,if_true,Option.some.injEq]at hb
    subst hb;rfl)
 refine⟨F,_,fun t'=>RelA.mono E _ _ (C.t t'),M,C.nt,C.d,C.f,C.g,fun i bd' hi hb => ?_,Nat.le_succ_of_le C.k⟩
 have h1:s.n≠i:=by have:=C.k;omega
 by_cases h2:id=i
 ·subst h2;simp[zax,h1]at hb
 ·exact C.e i bd' hi (by simpa[zax,h1,h2]using hb)
theorem z3h {P:Program} {c:Bool} {f:FuncId} {args:List AV} {φ : Prop} {h:Nat→Chunk} {m:Nat} {K:Eff→Prop} (hc:c=false) (k:K ⟨.undef,[],0⟩):zzk P c f args φ h m K := .inr ⟨fun h=>absurd (hc.symm.trans h) (by decide),fun _=>k⟩
theorem To.moveC {k:Nat} {s:St} (bid j id e sz tt:Nat) (cs:List AV) (xs:List (List PV)) (hc:zak s.h bid = .blk tt cs) (hj:cs[j]? = some (.own id)) (hr:zak s.h id = .row e sz xs) :
 ToK k s ⟨s.t,(s.n,.row e sz xs)::(id,.dead)::(bid,.blk tt (cs.set j (.own s.n)))::s.h,s.n+1⟩:=by
 intro H F β a w hk C
 obtain⟨bd0,hb1,hb2⟩:=C.m.ch bid (by rw[hc];simp)
 obtain⟨bd1,hr1,hr2⟩:=C.m.ch id (by rw[hr];simp)
 have hbn:bid≠s.n:=fun h=>absurd (C.m.used _ _ hb1) (by rw[h];exact Nat.lt_irrefl _)
 have hin:id≠s.n:=fun h=>absurd (C.m.used _ _ hr1) (by rw[h];exact Nat.lt_irrefl _)
 have hbi:bid≠id:=fun h=>by rw[h,hr]at hc;simp at hc
 have hb2':=hb2
 rw[hc]at hb2'
 obtain⟨q1,q2,g0,vs,q3,q4,q5,q6,q7⟩:=hb2'
 obtain⟨u,hu,hv⟩:=q6.at j _ hj
 simp only[RelA]at hv
 obtain⟨_,hone,hv⟩:=hv
 obtain rfl:=hv bd1 hr1
 obtain⟨M,E⟩:=C.m.step (w':=w) (h':=zak ((s.n,.row e sz xs)::(id,.dead)::(bid,.blk tt (cs.set j (.own s.n)))::s.h)) (β':=zax (zax β id none) s.n (some bd1)) (F':=F) (U':=(· < s.n+1)) (fun i=>i=s.n∨i=id∨i=bid)
  (fun i hi=>by simp only[not_or]at hi;simp[zax,Ne.symm hi.1,Ne.symm hi.2.1]) (fun i hi=>by simp only[not_or]at hi;simp[zak,Ne.symm hi.1,Ne.symm hi.2.1,Ne.symm hi.2.2]) rfl rfl rfl (Nat.le_refl _) (fun _ _ _=>rfl) (fun i hi=>Nat.lt_succ_of_lt hi) (fun b hb=>hb)
  (fun b hb=>⟨C.m.fin b hb,.inl hb⟩)
  (fun i bd' hi hu hb=>by
   rcases hi with rfl|rfl|rfl
   ·exact absurd hu (Nat.lt_irrefl _)
   ·simp[zax,Ne.symm hin]at hb
   ·exact⟨_,by simpa[zax,Ne.symm hbn,Ne.symm hbi]using hb⟩)
  (fun i bd' hi hb=>by
   rcases hi with rfl|rfl|rfl
   ·simp only[zax,if_true,Option.some.injEq]at hb
    subst hb
    refine⟨Nat.lt_succ_self _,fun b hbb => ?_⟩
    obtain⟨r1,r2,r3⟩:=C.m.off _ _ _ hr1 hbb
    exact⟨r2,r1,.inr ⟨id,bd1,.inr (.inl rfl),hr1,hbb⟩⟩
   ·simp[zax,Ne.symm hin]at hb
   ·have hb' : β i=some bd':=by simpa[zax,Ne.symm hbn,Ne.symm hbi]using hb
    refine⟨Nat.lt_succ_of_lt (C.m.used _ _ hb'),fun b hbb => ?_⟩
    obtain⟨p1,p2,p3⟩:=C.m.off _ _ _ hb' hbb
    exact⟨p2,p1,.inr ⟨i,bd',.inr (.inr rfl),hb',hbb⟩⟩)
  (fun i j' bi bj b hi hj' hbi2 hbj h1 h2=>by
   have old:∀i' bd',i'=bid→(zax (zax β id none) s.n (some bd1)) i'=some bd' → β bid=some bd':=by
    intro i' bd' h hb;subst h;simpa[zax,Ne.symm hbn,Ne.symm hbi]using hb
   rcases hi with rfl|rfl|rfl<;>rcases hj' with rfl|rfl|rfl
   ·rfl
   ·simp[zax,Ne.symm hin]at hbj
   ·simp only[zax,if_true,Option.some.injEq]at hbi2;subst hbi2
    have:=C.m.dis id j' bd1 bj b hr1 (old _ _ rfl hbj) h1 h2
    exact absurd this.symm hbi
   ·simp[zax,Ne.symm hin]at hbi2
   ·rfl
   ·simp[zax,Ne.symm hin]at hbi2
   ·simp only[zax,if_true,Option.some.injEq]at hbj;subst hbj
    have:=C.m.dis i id bi bd1 b (old _ _ rfl hbi2) hr1 h1 h2
    exact absurd this hbi
   ·simp[zax,Ne.symm hin]at hbj
   ·rfl)
  (fun E i hi hd=>by
   rcases hi with rfl|rfl|rfl
   ·refine⟨bd1,by simp[zax],?_⟩
    have hr3:=ChOk.mono E (fun g _=>rfl) hr2
    rw[hr]at hr3
    simp only[zak,if_true]
    exact hr3
   ·simp[zak,Ne.symm hin]at hd
   ·refine⟨bd0,by simpa[zax,Ne.symm hbn,Ne.symm hbi]using hb1,?_⟩
    have hb3:=ChOk.mono E (fun g _=>rfl) hb2
    rw[hc]at hb3
    simp only[zak,if_true,Ne.symm hbn,Ne.symm hbi,if_false]
    obtain⟨q1,q2,g,vs',q3',q4,q5',q6',q7⟩:=hb3
    have hg:g=g0:=by rw[q3]at q3';exact(Option.some.inj q3').symm
    subst hg
    have hvs:vs'=vs:=by rw[q5]at q5';simpa using q5'.symm
    subst hvs
    refine⟨by rw[List.length_set];exact q1,q2,g,vs',q3',q4,q5',RelL.setAt j q6' (fun u hu2 => ?_),q7⟩
    rw[hu]at hu2
    obtain rfl:=Option.some.inj hu2
    simp only[RelA]
    refine⟨Nat.lt_succ_self _,hone,fun bd hb => ?_⟩
    simp only[zax,if_true,Option.some.injEq]at hb
    subst hb;rfl)
 refine⟨F,_,fun t'=>RelA.mono E _ _ (C.t t'),M,C.nt,C.d,C.f,C.g,fun i bd' hi hb => ?_,Nat.le_succ_of_le C.k⟩
 have h1:s.n≠i:=by have:=C.k;omega
 by_cases h2:id=i
 ·subst h2;simp[zax,h1]at hb
 ·exact C.e i bd' hi (by simpa[zax,h1,h2]using hb)
def ylv (ops:Array Oper) (n:Nat) (K:St→Prop) (acc:List (List Nat × List Nat)) (s':St):Prop:=zw3 ops acc=true∧K ⟨s'.t,s'.h,n+4*ops.size⟩
theorem zbw {P:Program} {nt:Nat} {ops:Array Oper} {K:St→Prop} {t:List (Nat × AV)} {h:List (Nat × Chunk)} {n:Nat} (ds:List (Option Tmp)) (hds:ops.toList.map (fun o:Oper=>o.dst)=ds)
 (G:∀(O:Array Oper) (l:List Oper) (R:List (List Nat × List Nat)→St→Prop),l=ops.toList→(∀j:Nat,(O[j]?).bind (fun o:Oper=>o.dst)=(ds[j]?).bind id)→R=ylv ops n K→zmv P nt O n 0 l [] R ⟨t,h,n⟩):zab P nt ops K ⟨t,h,n⟩:=by
 refine G ops ops.toList _ rfl (fun j => ?_) rfl
 rw[←hds,List.getElem?_map,Array.getElem?_toList]
 cases ops[j]? <;> rfl
theorem za6 {P:Program} {nt:Nat} {O:Array Oper} {n i:Nat} {o:Oper} {r0:List Oper} {acc:List (List Nat × List Nat)} {R:List (List Nat × List Nat)→St→Prop} {s:St}
 (G:∀r,r=r0→zmv P nt O n i (o::r) acc R s):zmv P nt O n i (o::r0) acc R s:=G r0 rfl
theorem zmu {P:Program} {nt:Nat} {O:Array Oper} {n i:Nat} {acc:List (List Nat × List Nat)} {R:List (List Nat × List Nat)→St→Prop} {t:List (Nat × AV)} {h:List (Nat × Chunk)} {m:Nat} (G:R acc ⟨t,h,m⟩):zmv P nt O n i [] acc R ⟨t,h,m⟩:=G
theorem zmt {ops:Array Oper} {n:Nat} {K:St→Prop} {acc:List (List Nat × List Nat)} {t:List (Nat × AV)} {h:List (Nat × Chunk)} {m:Nat} (G1:zw3 ops acc=true) (G2:K ⟨t,h,n+4*ops.size⟩):ylv ops n K acc ⟨t,h,m⟩:=⟨G1,G2⟩
theorem Spec.hand {P:Program} {f:FuncId} {args args':List AV} {hs hs1 hs1':List Chunk} {r:AV} (k:Nat) (S:Spec P f args' hs1 r hs1') (hk:k≤hs.length) (hk1:hs1'.length=k) (hw:WkL (cvL (List.range k) (nth hs) args) args') (hh:hs1=(List.range k).map fun id=>cvC (List.range k) (nth hs) (nth hs id)) :
 Spec P f args hs r (hs1'++List.replicate (hs.length-k) .dead):=by
 obtain⟨S0,_,S⟩:=S
 refine⟨S0,by simp;omega,fun w F β vs M hv => ?_⟩
 have hl1:hs1.length=k:=by rw[hh];simp
 have M1:=(zw5 M (hT:=nth hs) (fun _ _=>rfl) (List.range k) List.nodup_range).here
 have hv1:=hw.run (zf4 M (hT:=nth hs) (fun _ _=>rfl) (List.range k) args vs hv)
 rw[←hh]at M1
 rw[List.length_range]at M1 hv1
 rw[hl1]at S
 have sel:∀ {i:Nat} {bd:Bind},zlb (List.range k) β i=some bd→i<k ∧ β i=some bd:=by
  intro i bd h
  obtain⟨id,h1,h2⟩:=zla h
  have hik:i<k:=by have:=(List.getElem?_eq_some_iff.1 h1).1;simpa using this
  rw[List.getElem?_range hik]at h1
  obtain rfl:=Option.some.inj h1
  exact⟨hik,h2⟩
 have hin:∀b,inB (zlb (List.range k) β) b→inB β b:=by
  rintro b ⟨i,bd,h1,h2⟩
  exact⟨i,bd,(sel h1).2,h2⟩
 refine(S w _ _ vs M1 hv1).mono ?_
 rintro e w' ⟨v,F',β',rfl,M2,hr,hF,hF',hβ⟩
 rw[hk1]at M2 hr
 have E:Ext (· < k) F' β' w' (· < (hs1'++List.replicate (hs.length-k) Chunk.dead).length) F' (fun i=>if i<k then β' i else none) w' :=
  ⟨fun i hi=>by simp only[List.length_append,List.length_replicate];omega,fun b hb=>⟨hb,rfl⟩,fun i bd hi hb=>⟨_,by simpa[hi]using hb⟩⟩
 have low:∀ {i:Nat} {bd:Bind},(if i<k then β' i else none)=some bd→i<k ∧ β' i=some bd:=by
  intro i bd h
  by_cases hi:i<k
  ·rw[if_pos hi]at h;exact⟨hi,h⟩
  ·rw[if_neg hi]at h;simp at h
 refine⟨v,F',fun i=>if i<k then β' i else none,rfl,⟨M2.size,M2.os,M2.tape,M2.output,fun b hb hn=>M2.frame b hb (fun h=>hn (hin b h)),M2.fin,fun i bd hb => ?_,fun i hd => ?_,fun i j bi bj b hi hj h1 h2=>M2.dis i j bi bj b (low hi).2 (low hj).2 h1 h2,fun i bd b hb hbb => ?_⟩,RelA.mono E _ _ hr,fun b hb=>hF b (.inl hb),fun b hb => ?_,fun i bd hi hb => ?_⟩
 ·exact E.u i (low hb).1
 ·have hik:i<k:=by
   rcases Nat.lt_or_ge i k with h|h
   ·exact h
   ·exfalso
    apply hd
    unfold nth
    rw[List.getD_eq_getElem?_getD,List.getElem?_append_right (by omega),List.getElem?_replicate]
    split<;>rfl
  have e0:nth (hs1'++List.replicate (hs.length-k) Chunk.dead) i=nth hs1' i:=by
   unfold nth
   rw[List.getD_eq_getElem?_getD,List.getElem?_append_left (by omega),List.getD_eq_getElem?_getD]
  rw[e0]at hd ⊢
  obtain⟨bd,h1,h2⟩:=M2.ch i hd
  exact⟨bd,by rw[if_pos hik];exact h1,ChOk.mono E (fun _ _=>rfl) h2⟩
 ·obtain⟨k1,k2,k3⟩:=M2.off i bd b (low hb).2 hbb
  exact⟨k1,k2,k3.imp id (hin b)⟩
 ·rcases hF' b hb with h1|h1|h1
  ·rcases h1 with h1|⟨id,bd,_,_,h2,h3⟩
   ·exact .inl h1
   ·exact .inr (.inr ⟨id,bd,h2,.inl h3⟩)
  ·exact .inr (.inl h1)
  ·exact .inr (.inr (hin b h1))
 ·obtain⟨h1,h2⟩:=low hb
  obtain⟨bs,h3⟩:=hβ i bd h1 h2
  exact⟨bs,(sel h3).2⟩
theorem z2b (Z:List Nat) (h:Nat→Chunk):∀(l:List (Nat × AV)) (t:Nat),look (l.map fun p=>(p.1,fz Z h p.2)) t=fz Z h (look l t)
 | [],t=>by simp only[List.map_nil,look,fz]
 | (k,x)::r,t=>by
  simp only[List.map_cons,look]
  by_cases e:k=t
  ·rw[if_pos e,if_pos e]
  ·rw[if_neg e,if_neg e];exact z2b Z h r t
theorem To.frz {k:Nat} {s:St} (Z:List Nat):ToK k s ⟨s.t.map fun p=>(p.1,fz Z (zak s.h) p.2),zgo Z++s.h,s.n⟩:=by
 intro H F β a w hk C
 have M:=z9t C.m Z
 have e:zak (zgo Z++s.h)=fzH Z (zak s.h):=by
  rw[←zkc,zkz]
 refine⟨fzF Z F β,fzB Z β,fun t => ?_,by rw[e];exact M,C.nt,C.d.more fun _ hb => .inl hb,fun b hb => .inl (C.f b hb),fun b hb => ?_,fun i bd hi hb=>C.e i bd hi (zds hb).2,C.k⟩
 ·simp only[z2b]
  exact zr1 C.m (fun _ _=>rfl) Z _ _ (C.t t)
 ·rcases hb with h1|⟨id,bd,_,h2,h3⟩
  ·exact C.g b h1
  ·exact .inr (C.m.off id bd b h2 (.inl h3)).2.2
def xsh (X s:Nat):Nat:=X ^^^ X/s
def mxA (n:Nat):Nat:=(n+11400714819323198485) % 18446744073709551616
def mxB (n:Nat):Nat:=xsh (mxA n) 1073741824*13787848793156543929 % 18446744073709551616
def mxC (n:Nat):Nat:=xsh (mxB n) 134217728*10723151780598845931 % 18446744073709551616
def mx (n:Nat):Nat:=xsh (mxC n) 2147483648
theorem yep (X s:Nat) (h:X<18446744073709551616):xsh X s<18446744073709551616:=by
 have hd:X/s≤X:=Nat.div_le_self _ _
 exact Nat.xor_lt_two_pow (n:=64) h (by omega)
theorem ygg (n:Nat):mxA n<18446744073709551616:=Nat.mod_lt _ (by decide)
theorem yge (n:Nat):mxB n<18446744073709551616:=Nat.mod_lt _ (by decide)
theorem z9m (n:Nat):mxC n<18446744073709551616:=Nat.mod_lt _ (by decide)
theorem z6r (n:Nat):mx n<18446744073709551616:=yep _ _ (z9m n)
theorem ygh (n:Nat):IntKind.u64.wrap ((n:Int)+11400714819323198485)=(mxA n:Int):=by
 rw[IntKind.wrap_u64];unfold mxA;rw[Int.natCast_emod,Int.natCast_add];rfl
theorem yeq (X s:Nat) (h:X<18446744073709551616):bits .xor .u64 (X:Int) ((X:Int)/(s:Int))=(xsh X s:Int):=xorShift_u64 X s h
theorem ygf (n:Nat):IntKind.u64.wrap (bits .xor .u64 (mxA n:Int) ((mxA n:Int)/1073741824)*13787848793156543929)=(mxB n:Int):=mixStep_u64 _ 1073741824 13787848793156543929 (ygg n)
theorem ygd (n:Nat):IntKind.u64.wrap (bits .xor .u64 (mxB n:Int) ((mxB n:Int)/134217728)*10723151780598845931)=(mxC n:Int):=mixStep_u64 _ 134217728 10723151780598845931 (yge n)
set_option maxHeartbeats 800000 in
theorem ztk (n:Nat) (w:World) :
 Calls Tryz.prog 150 #[.int .u64 n] w fun e w'=>e = .returned (.int .u64 (mx n))∧w=w':=by
 go_enter Tryz.func150,Tryz.ntmps150
 go_wp2
 go_ret
 refine⟨zta ?_,rfl⟩
 rw[ygh,ygf,ygd]
 exact yeq (mxC n) 2147483648 (z9m n)
theorem ylo (a b:Nat) (ha:a<18446744073709551616) (hb:b<18446744073709551616):bits .xor .u64 (a:Int) (b:Int)=((a ^^^ b:Nat):Int):=bits_xor_u64_nat a b ha hb
theorem z96 (a b:Nat) (ha:a<18446744073709551616) (hb:b<18446744073709551616):a ^^^ b<18446744073709551616:=Nat.xor_lt_two_pow (n:=64) ha hb
set_option maxHeartbeats 800000 in
theorem z46 (m n:Nat) (hm:m<18446744073709551616) (w:World) :
 Calls Tryz.prog 151 #[.int .u64 m,.int .u64 n] w fun e w'=>e = .returned (.int .u64 (m ^^^ mx n:Nat))∧w=w':=by
 have h:=ylo m (mx n) hm (z6r n)
 have H:=Lib.hid h;clear h hm
 go_enter Tryz.func151,Tryz.ntmps151
 go_wp2_with (go_at_call 150;refine(ztk _ _).mono ?_;rintro e w' ⟨rfl,rfl⟩)
 go_ret
 exact⟨zta H.out,rfl⟩
def mb (m:Nat) (b:UInt8):Nat:=mx (m ^^^ b.toNat)
theorem ykq (m:Nat) (b:UInt8):mb m b<18446744073709551616:=z6r _
def lf (m:Nat):List UInt8→Nat
 | []=>m
 | b::l=>lf (mb m b) l
theorem yce (m:Nat) (l:List UInt8) (b:UInt8):lf m (l ++ [b])=mb (lf m l) b:=by
 induction l generalizing m with
 | nil=>simp only[List.nil_append,lf]
 | cons c l ih=>simp only[List.cons_append,lf,ih]
theorem ykx (l:List UInt8):∀m,m<18446744073709551616→lf m l<18446744073709551616:=by
 induction l with
 | nil=>intro m h;rw[lf];exact h
 | cons b l ih=>intro m _;rw[lf];exact ih _ (ykq _ _)
def mz (n:Nat):Nat:=mx n
theorem ykj (n:Nat):mz n<18446744073709551616:=z6r _
def z2g (s:ByteArray):Nat:=lf (mz s.size) s.data.toList
theorem yko (n:Nat) (w:World):Calls Tryz.prog 150 #[.int .u64 n] w fun e w'=>e = .returned (.int .u64 (mz n:Nat))∧w=w':=ztk n w
theorem ykp (m:Nat) (b:UInt8) (w:World):Calls Tryz.prog 150 #[.int .u64 (m ^^^ b.toNat:Nat)] w fun e w'=>e = .returned (.int .u64 (mb m b:Nat))∧w=w':=ztk _ w
set_option maxRecDepth 20000 in
set_option maxHeartbeats 1000000 in
theorem z64 (s:ByteArray) (w:World) (hs:s.size≤140737488351232) :
 Calls Tryz.prog 119 #[.string s] w fun e w'=>e = .returned (.int .u64 (z2g s:Nat))∧w=w':=by
 have hu:IntKind.u64.wrap (s.size:Int)=s.size:=by rw[IntKind.wrap_u64];omega
 go_enter Tryz.func119,Tryz.ntmps119
 go_wp2_with fail
 refine(yko _ _).mono ?_
 rintro e w' ⟨rfl,rfl⟩
 clear hu
 go_wp2_with fail
 go_loop [3,11] (fun mv iv=>∃k:Nat,k≤s.size∧iv = .int .i64 k∧mv = .int .u64 (lf (mz s.size) (s.data.toList.take k):Nat)) (fun _ iv=>s.size-(intOf iv).toNat)
 case atStart=>exact⟨0,by omega,rfl,by rw[List.take_zero,lf]⟩
 case round =>
  obtain⟨k,hk,rfl,rfl⟩:=hrel
  have hl:=ykx (s.data.toList.take k) _ (ykj s.size)
  by_cases h8:k<s.size
  ·have hs1:lf (mz s.size) (s.data.toList.take (k+1))=mb (lf (mz s.size) (s.data.toList.take k)) s[k]:=by rw[zjs s k h8,yce]
   generalize lf (mz s.size) (s.data.toList.take k)=y at *
   have HS:=PLift.up hs1;clear hs1
   have hx:=UInt8.toNat_lt s[k]
   have hc:IntKind.u64.wrap (s[k].toNat:Int)=(s[k].toNat:Int):=by rw[IntKind.wrap_u64];omega
   have hxo:=ylo y s[k].toNat hl (by omega)
   go_wp2_with fail
   refine(ykp _ _ _).mono ?_
   rintro e w' ⟨rfl,rfl⟩
   rw[←HS.down]
   clear hxo hc
   go_wp2_with fail
   go_round
   case rel=>exact⟨k+1,by omega,by go_num,rfl⟩
   case measure=>simp[intOf];omega
  ·obtain rfl:k=s.size:=by omega
   have hf:lf (mz s.size) (s.data.toList.take s.size)=z2g s:=by rw[zux,z2g]
   rw[hf]
   clear hf hl
   go_wp2_with fail
   go_returns
   exact⟨rfl,rfl⟩
end Go.Proofs.YtmjbgbmegbkmhaaGreat
namespace Go.Proofs
open Go.Shelf
def Tryz.lays169_ren:Go.Shelf.Ren:=⟨fun|169=>110|n=>n,fun|70=>226|9=>9|0=>0|72=>229|37=>227|127=>276|3=>3|5=>5|n=>n,fun|n=>n⟩
theorem Tryz.lays169:Go.Proofs.Lays.n169 Tryz.prog Tryz.lays169_ren:={
 mixed:=by kernel_rfl
 f169:=Tryz.func110.trans (congrArg some (by kernel_rfl))
 t0:=Tryz.underlying0
 a0:=Tryz.isAgg0
 z0:=Tryz.sizeOf0
 v0:=Tryz.zeroValue0
 t3:=Tryz.underlying3
 a3:=Tryz.isAgg3
 z3:=Tryz.sizeOf3
 v3:=Tryz.zeroValue3
 t9:=Tryz.underlying9
 a9:=Tryz.isAgg9
 z9:=Tryz.sizeOf9
 v9:=Tryz.zeroValue9
 t37:=Tryz.underlying227
 a37:=Tryz.isAgg227
 z37:=Tryz.sizeOf227
 v37:=Tryz.zeroValue227
 t70:=Tryz.underlying226
 a70:=Tryz.isAgg226
 z70:=Tryz.sizeOf226
 v70:=Tryz.zeroValue226
 t72:=Tryz.underlying229
 a72:=Tryz.isAgg229
 z72:=Tryz.sizeOf229
 v72:=Tryz.zeroValue229
 t127:=Tryz.underlying276
 a127:=Tryz.isAgg276
 z127:=Tryz.sizeOf276
 v127:=Tryz.zeroValue276 }
theorem Tryz.Builder_Extra_169:Builder.Extra Tryz.prog Tryz.lays169_ren:={
 sizeBuilder:=by kernel_rfl
 liesBuilder:=by kernel_rfl
 t5:=Tryz.underlying5
 a5:=Tryz.isAgg5
 z5:=Tryz.sizeOf5
 v5:=Tryz.zeroValue5
 infoByte:=by kernel_rfl
 cellsByte:=by kernel_rfl
 sizeByte:=by kernel_rfl
 neB5:=by decide }
open Go.RowKit in
theorem Tryz.Builder_String_any (B b:Nat) (l:List UInt8) (w:World) (h:Lib.IsBuilder 229 5 B b (Lib.byteCells l) w) (hBw:B≤w.heap.size) :
 Calls Tryz.prog 110 #[.pointer (some ⟨b,0,none⟩)] w fun e w'=>e = .returned (.string ⟨l.toArray⟩)∧Below B w w':=Any.Builder_String_any Tryz.lays169 Tryz.Builder_Extra_169 B b l w h hBw
def Tryz.laysNm225_ren:Go.Shelf.Ren:=⟨fun|25=>148|31=>172|32=>173|37=>186|n=>n,fun|22=>22|3=>3|4=>4|40=>225|0=>0|n=>n,fun|n=>n⟩
theorem Tryz.laysNm225:Go.Proofs.Lays2.n25 Tryz.prog Tryz.laysNm225_ren:={
 mixed:=by kernel_rfl
 f25:=Tryz.func148.trans (congrArg some (by kernel_rfl))
 f31:=Tryz.func172.trans (congrArg some (by kernel_rfl))
 f32:=Tryz.func173.trans (congrArg some (by kernel_rfl))
 f37:=Tryz.func186.trans (congrArg some (by kernel_rfl))
 t0:=Tryz.underlying0
 a0:=Tryz.isAgg0
 z0:=Tryz.sizeOf0
 v0:=Tryz.zeroValue0
 t3:=Tryz.underlying3
 a3:=Tryz.isAgg3
 z3:=Tryz.sizeOf3
 v3:=Tryz.zeroValue3
 t4:=Tryz.underlying4
 a4:=Tryz.isAgg4
 z4:=Tryz.sizeOf4
 v4:=Tryz.zeroValue4
 t22:=Tryz.underlying22
 a22:=Tryz.isAgg22
 z22:=Tryz.sizeOf22
 v22:=Tryz.zeroValue22
 t40:=Tryz.underlying225
 a40:=Tryz.isAgg225
 z40:=Tryz.sizeOf225
 v40:=Tryz.zeroValue225 }
open Go.RowKit Go.Lib in
theorem Tryz.slices_BinarySearch_int (b off n c:Nat) (zs:List Int) (x:Int) (w:World) (hz:n≤zs.length) (hbig:n<4611686018427387904) (hc:∀j,j<zs.length→w.cell? ⟨b,off+j,none⟩=some (.int .i64 (zs.getD j 0))) (hs:(zs.take n).Pairwise (· ≤ ·)) :
 Calls Tryz.prog 148 #[.slice (some ⟨b,off,none⟩) n c,.int .i64 x] w fun e w'=>e = .returned (.tuple #[.int .i64 ((zs.take n).countP (· < x):Nat),.bool ((zs.take n).contains x)])∧∃q,w'=w.drewN q:=Any.slices_BinarySearch_int Tryz.laysNm225 b off n c zs x w hz hbig hc hs
def Tryz.laysNm223_ren:Go.Shelf.Ren:=⟨fun|23=>147|n=>n,fun|22=>22|3=>3|4=>4|0=>0|n=>n,fun|n=>n⟩
theorem Tryz.laysNm223:Go.Proofs.Lays2.n23 Tryz.prog Tryz.laysNm223_ren:={
 mixed:=by kernel_rfl
 f23:=Tryz.func147.trans (congrArg some (by kernel_rfl))
 t0:=Tryz.underlying0
 a0:=Tryz.isAgg0
 z0:=Tryz.sizeOf0
 v0:=Tryz.zeroValue0
 t3:=Tryz.underlying3
 a3:=Tryz.isAgg3
 z3:=Tryz.sizeOf3
 v3:=Tryz.zeroValue3
 t4:=Tryz.underlying4
 a4:=Tryz.isAgg4
 z4:=Tryz.sizeOf4
 v4:=Tryz.zeroValue4
 t22:=Tryz.underlying22
 a22:=Tryz.isAgg22
 z22:=Tryz.sizeOf22
 v22:=Tryz.zeroValue22
 i3:=by kernel_rfl }
open Go.RowKit Go.Lib Go.Sort in
theorem Tryz.slices_Delete_int (blk off cap i j:Nat) (zs:List Int) (w:World) (hH:Holds (Value.int .i64) w blk off zs.toArray) (hcap:zs.length≤cap) (hm:cap≤9223372036854775807) (hij:i≤j) (hj:j≤zs.length) :
 Calls Tryz.prog 147 #[.slice (some ⟨blk,off,none⟩) zs.length cap,.int .i64 i,.int .i64 j] w fun e w'=>e = .returned (.slice (some ⟨blk,off,none⟩) (zs.length-(j-i)) cap)∧∃q,w'=putRow (Value.int .i64) (Sort.ahead w q) blk off (zs.take i++zs.drop j++List.replicate (j-i) 0).toArray:=Any.slices_Delete_int Tryz.laysNm223 blk off cap i j zs w hH hcap hm hij hj
end Go.Proofs
namespace Go.Proofs.YtmjbgbmegbkmhaaGreat
set_option linter.all false
open Go.RowKit
def sp (n:Nat):Nat:=Lib.bitLen (n-1)-1
def cs (n:Nat):Nat:=n/2 ^^^ (if n % 2=1 then 3988292384 else 0)
def csk:Nat→Nat→Nat
 | 0,n=>n
 | k+1,n=>cs (csk k n)
theorem yhj (n:Nat) (h:n<4294967296):cs n<4294967296:=by
 unfold cs
 refine Nat.xor_lt_two_pow (n:=32) (by omega) ?_
 split<;>decide
theorem z91 (k n:Nat) (h:n<4294967296):csk k n<4294967296:=by
 induction k with
 | zero=>exact h
 | succ k ih=>exact yhj _ ih
theorem x32 (a b:Nat) (ha:a<4294967296) (hb:b<4294967296):bits .xor .u32 (a:Int) (b:Int)=((a ^^^ b:Nat):Int):=u32_xor_nat a b ha hb
theorem z8y (a b:Nat) (ha:a<4294967296) (hb:b<4294967296):a ^^^ b<4294967296:=Nat.xor_lt_two_pow (n:=32) ha hb
def tk (n b:Nat):Nat:=csk 8 (n ^^^ b)
theorem yj2 (n b:Nat) (h:n<4294967296) (hb:b<256):tk n b<4294967296:=z91 8 _ (z8y n b h (by omega))
theorem ylh (y:Nat) (h:y<4294967296):bits .xor .u32 ((y:Int)/2) (bits .and .u32 3988292384 (-bits .and .u32 (y:Int) 1 % 4294967296))=((cs y:Nat):Int):=by
 have h1:bits .and .u32 (y:Int) 1=((y % 2:Nat):Int):=by
  have:=u32_and_nat y 1 h (by decide)
  rw[Nat.and_one_is_mod]at this;exact this
 rw[h1]
 have h2:(y:Int)/2=((y/2:Nat):Int):=by omega
 rw[h2]
 unfold cs
 rcases Nat.mod_two_eq_zero_or_one y with h0|h0
 ·rw[h0]
  have e:bits .and .u32 3988292384 (-((0:Nat):Int) % 4294967296)=((0:Nat):Int):=by decide +kernel
  rw[e,x32 _ _ (by omega) (by decide)];simp
 ·rw[h0]
  have e:bits .and .u32 3988292384 (-((1:Nat):Int) % 4294967296)=((3988292384:Nat):Int):=by decide +kernel
  rw[e,x32 _ _ (by omega) (by decide)];simp
set_option maxHeartbeats 800000 in
theorem z5d (n b:Nat) (w:World) (hn:n<4294967296) (hb:b<256) :
 Calls Tryz.prog 171 #[.int .u32 n,.int .u8 b] w fun e w'=>e = .returned (.int .u32 (tk n b:Nat))∧w=w':=by
 have hx:=x32 n b hn (by omega)
 have hl:=z8y n b hn (by omega)
 have e:tk n b=csk 8 (n ^^^ b):=rfl
 generalize n ^^^ b=z at hx hl e
 have E:=Lib.hid e;clear e
 go_enter Tryz.func171,Tryz.ntmps171
 go_wp2_with fail
 go_loop [0,9] (fun m i=>∃k:Nat,k≤8∧i = .int .i64 k∧m = .int .u32 (csk k z:Nat)) (fun _ i=>8-(intOf i).toNat)
 case atStart=>exact⟨0,by omega,rfl,rfl⟩
 case round =>
  obtain⟨k,hk,rfl,rfl⟩:=hrel
  by_cases h8:k<8
  ·have hlk:=z91 k z hl
   have hs:csk (k+1) z=cs (csk k z):=rfl
   generalize csk k z=y at *
   have hls:=yhj y hlk
   have HS:=Lib.hid hs;clear hs
   go_wp2_with fail
   go_round
   case rel=>exact⟨k+1,by omega,by go_num,by rw[HS.out,ylh y hlk]⟩
   case measure=>simp[intOf];omega
  ·obtain rfl:k=8:=by omega
   go_wp2_with fail
   go_ret
   exact⟨z02 (by rw[E.out]),rfl⟩
def tks (n:Nat) (l:List UInt8):Nat:=l.foldl (fun n b=>tk n b.toNat) n
theorem ye7 (l:List UInt8):∀n,n<4294967296→tks n l<4294967296:=by
 induction l with
 | nil=>intro n h;exact h
 | cons b l ih=>intro n h;exact ih _ (yj2 n _ h (UInt8.toNat_lt b))
theorem z49 (n:Nat) (l:List UInt8) (b:UInt8):tks n (l ++ [b])=tk (tks n l) b.toNat:=by simp[tks]
def z75 (n:Nat) (l:List UInt8):Nat:=4294967295-tks (4294967295-n) l
theorem ydn (n:Nat) (l:List UInt8):z75 n l<4294967296:=by unfold z75;omega
theorem yf9 (n:Nat) (h:n<4294967296):bits .xor .u32 IntKind.u32.max (n:Int)=((4294967295-n:Nat):Int):=by
 have e1:IntKind.u32.max=((4294967295:Nat):Int):=by decide
 rw[e1,x32 _ _ (by decide) h]
 congr 1
 have e2:(BitVec.ofNat 32 4294967295 ^^^ BitVec.ofNat 32 n) = ~~~(BitVec.ofNat 32 n):=by
  have:BitVec.ofNat 32 4294967295=BitVec.allOnes 32:=by decide
  rw[this,BitVec.allOnes_xor]
 have e3:=congrArg BitVec.toNat e2
 rw[BitVec.toNat_xor,BitVec.toNat_not,BitVec.toNat_ofNat,BitVec.toNat_ofNat,Nat.mod_eq_of_lt (show n<2 ^ 32 from h)]at e3
 exact e3
set_option maxHeartbeats 800000 in
theorem z6t (n:Nat) (s:ByteArray) (w:World) (hn:n<4294967296) (hs:s.size≤140737488351232) :
 Calls Tryz.prog 145 #[.int .u32 n,.string s] w fun e w'=>e = .returned (.int .u32 (z75 n s.data.toList:Nat))∧w=w':=by
 go_enter Tryz.func145,Tryz.ntmps145
 go_wp2_with fail
 go_loop [0,5,10] (fun m _ i=>∃k:Nat,k≤s.size∧i = .int .i64 k∧m = .int .u32 (tks (4294967295-n) (s.data.toList.take k):Nat)) (fun _ _ i=>s.size-(intOf i).toNat)
 case atStart=>exact⟨0,by omega,rfl,by rw[yf9 n hn];rfl⟩
 case round =>
  obtain⟨k,hk,rfl,rfl⟩:=hrel
  have hl:=ye7 (s.data.toList.take k) (4294967295-n) (by omega)
  by_cases h8:k<s.size
  ·have hs1:tks (4294967295-n) (s.data.toList.take (k+1))=tk (tks (4294967295-n) (s.data.toList.take k)) s[k].toNat:=by rw[zjs s k h8,z49]
   generalize tks (4294967295-n) (s.data.toList.take k)=y at *
   have HS:=Lib.hid hs1;clear hs1
   go_wp2_with (go_at_call 171;refine(z5d _ _ _ hl (UInt8.toNat_lt _)).mono ?_;rintro e w' ⟨rfl,rfl⟩)
   go_round
   case rel=>exact⟨k+1,by omega,by go_num,by rw[HS.out]⟩
   case measure=>simp[intOf];omega
  ·have hke:k=s.size:=by omega
   go_wp2_with fail
   go_ret
   refine⟨z02 ?_,rfl⟩
   rw[hke]at hl
   rw[yf9 _ hl,z75,zux]
set_option maxHeartbeats 800000 in
theorem yf6 (s:ByteArray) (w:World) (hs:s.size≤140737488351232) :
 Calls Tryz.prog 111 #[.string s] w fun e w'=>e = .returned (.int .u32 (z75 0 s.data.toList:Nat))∧w=w':=by
 go_enter Tryz.func111,Tryz.ntmps111
 go_wp2_with fail
 refine(z6t 0 s w (by decide) hs).mono ?_
 rintro e w' ⟨rfl,rfl⟩
 go_wp2_with fail
 go_ret
 exact⟨rfl,rfl⟩
def zlc (n:Nat):List UInt8 := [UInt8.ofNat (n % 256),UInt8.ofNat (n/256 % 256),UInt8.ofNat (n/65536 % 256),UInt8.ofNat (n/16777216 % 256)]
def zhj (s:ByteArray):ByteArray:=s++⟨(zlc (z75 0 s.data.toList)).toArray⟩
theorem zm3 (s:ByteArray):(zhj s).size=s.size+4:=by unfold zhj;rw[ByteArray.size_append];rfl
set_option maxHeartbeats 800000 in
set_option maxRecDepth 100000 in
theorem zoa (s:ByteArray) (w:World) (hs:s.size≤140737488351232) :
 Calls Tryz.prog 63 #[.string s] w fun e w'=>e = .returned (.string (zhj s))∧Below w.heap.size w w':=by
 have hS:zhj s=s++⟨(zlc (z75 0 s.data.toList)).toArray⟩:=rfl
 have hl:=ydn 0 s.data.toList
 go_enter Tryz.func63,Tryz.ntmps63
 go_wp2_with fail
 refine(yf6 s w hs).mono ?_
 rintro e w' ⟨rfl,rfl⟩
 generalize z75 0 s.data.toList=n at *
 have hcv:=run_convert_bytes_back (P:=Tryz.prog) (w.alloc (Obj.cells #[Value.int IntKind.u8 ((n:Int) % 256),Value.int IntKind.u8 ((n:Int)/256 % 256),Value.int IntKind.u8 ((n:Int)/65536 % 256),Value.int IntKind.u8 ((n:Int)/16777216)] 5)) 227 9 5 ⟨w.heap.size,0,none⟩ 4 (zlc n) Tryz.underlying227 Tryz.underlying5 Tryz.underlying9 (by
  intro j hj
  have h1:(UInt8.ofNat (n % 256)).toNat=n % 256:=zbf _ (by omega)
  have h2:(UInt8.ofNat (n/256 % 256)).toNat=n/256 % 256:=zbf _ (by omega)
  have h3:(UInt8.ofNat (n/65536 % 256)).toNat=n/65536 % 256:=zbf _ (by omega)
  have h4:(UInt8.ofNat (n/16777216 % 256)).toNat=n/16777216 % 256:=zbf _ (by omega)
  have hjl:j<4:=hj
  rw[Addr.add_lit]
  match j,hjl with
  | 0,_=>simp only[zlc,List.getElem_cons_zero,h1];simp[go_sem]
  | 1,_=>simp only[zlc,List.getElem_cons_succ,List.getElem_cons_zero,h2];simp[go_sem]
  | 2,_=>simp only[zlc,List.getElem_cons_succ,List.getElem_cons_zero,h3];simp[go_sem]
  | 3,_=>simp only[zlc,List.getElem_cons_succ,List.getElem_cons_zero,h4];simp[go_sem];omega)
 have e4:(zlc n).length=4:=rfl
 rw[e4]at hcv
 have hsz:(ByteArray.mk (zlc n).toArray).size=4:=rfl
 have HS:=Lib.hid hS;clear hS
 obtain⟨T,hT⟩:∃T,T=ByteArray.mk (zlc n).toArray:=⟨_,rfl⟩
 rw[←hT]at hcv hsz
 have HT:=Lib.hid hT;clear hT e4
 go_wp2_with fail
 go_ret
 refine⟨congrArg Ending.returned (congrArg Value.string ?_),by go_grown⟩
 rw[HS.out,HT.out]
def e8 (x:Nat):List Value := [.int .u8 x]
def zcd:Nat→Nat→List UInt8
 | 0,n => [UInt8.ofNat n]
 | f+1,n=>if n<128 then [UInt8.ofNat n]else UInt8.ofNat (128+n % 128)::zcd f (n/128)
def zg7 (n:Nat):List UInt8:=zcd 9 n
def zi9 (n:Nat):ByteArray:=⟨(zg7 n).toArray⟩
theorem zig (f n:Nat):1≤(zcd f n).length∧(zcd f n).length≤f+1:=by
 induction f generalizing n with
 | zero=>simp[zcd]
 | succ f ih =>
  have:=ih (n/128)
  simp only[zcd];split<;>simp<;>omega
theorem zyj (n:Nat):1≤(zi9 n).size∧(zi9 n).size≤10:=by
 have:=zig 9 n
 show 1≤(zcd 9 n).toArray.size∧(zcd 9 n).toArray.size≤10
 simpa using this
theorem ztg (f n:Nat) (h:n<128):zcd f n = [UInt8.ofNat n]:=by cases f<;>simp[zcd,h]
def zgl (n:Int):Nat:=if 0≤n then (2*n).toNat else (2*(-(n+1))+1).toNat
def z42 (n:Nat):Int:=if n % 2=0 then (n/2:Nat)else -((n/2:Nat):Int)-1
theorem zwv (n:Int) (h:I64 n):zgl n<18446744073709551616:=by unfold I64 at h;unfold zgl;split<;>omega
theorem z4x (a:Nat) (h:a<18446744073709551616):bits .xor .u64 (a:Int) (18446744073709551615:Int)=((18446744073709551615-a:Nat):Int):=by
 have e1:(18446744073709551615:Int)=((18446744073709551615:Nat):Int):=rfl
 rw[e1,u64_xor_nat a _ h (by decide)]
 congr 1
 have e3:=congrArg BitVec.toNat (BitVec.xor_allOnes (x:=BitVec.ofNat 64 a))
 rw[BitVec.toNat_xor,BitVec.toNat_not,BitVec.toNat_ofNat,BitVec.toNat_allOnes,Nat.mod_eq_of_lt (show a<2 ^ 64 from h)]at e3
 exact e3
theorem zxn (a:Nat) (h:a<18446744073709551616):bits .xor .u64 (a:Int) (0:Int)=(a:Int):=by
 have e1:(0:Int)=((0:Nat):Int):=rfl
 rw[e1,u64_xor_nat a _ h (by decide)]
 simp
theorem zpy (x:Nat) (hx:x<9223372036854775808):bits .xor .i64 (x:Int) (-1) = -(x:Int)-1:=by
 show IntKind.i64.wrap ((BitVec.ofInt 64 (x:Int) ^^^ BitVec.ofInt 64 (-1)).toNat:Int)=_
 rw[BitVec.xor_comm]
 exact Lib.i64_not x hx
theorem zpx (x:Nat) (hx:x<9223372036854775808):bits .xor .i64 (x:Int) 0=(x:Int):=by
 show IntKind.i64.wrap ((BitVec.ofInt 64 (x:Int) ^^^ BitVec.ofInt 64 0).toNat:Int)=_
 rw[show BitVec.ofInt 64 0=0#64 from by decide,BitVec.xor_zero,BitVec.ofInt_natCast,BitVec.toNat_ofNat,IntKind.wrap_i64]
 omega
set_option maxHeartbeats 800000 in
theorem z7l (n:Int) (h:I64 n) (w:World) :
 Calls Tryz.prog 109 #[.int .i64 n] w fun e w'=>e = .returned (.int .u64 (zgl n:Nat))∧w=w':=by
 unfold I64 at h
 go_enter Tryz.func109,Tryz.ntmps109
 go_wp2_with fail
 go_returns
 refine⟨zta ?_,rfl⟩
 unfold zgl
 simp only[IntKind.wrap_u64]
 by_cases h0:0≤n
 ·rw[if_pos h0,show n/9223372036854775808 % 18446744073709551616=0 from by omega,show n % 18446744073709551616*2 % 18446744073709551616=(((2*n).toNat:Nat):Int)from by omega,zxn _ (by omega)]
 ·rw[if_neg h0,show n/9223372036854775808 % 18446744073709551616=18446744073709551615 from by omega,show n % 18446744073709551616*2 % 18446744073709551616=(((2*n+18446744073709551616).toNat:Nat):Int)from by omega,z4x _ (by omega)]
  omega
set_option maxHeartbeats 800000 in
theorem zxp (n:Nat) (h:n<18446744073709551616) (w:World) :
 Calls Tryz.prog 82 #[.int .u64 n] w fun e w'=>e = .returned (.int .i64 (z42 n))∧w=w':=by
 go_enter Tryz.func82,Tryz.ntmps82
 go_wp2_with fail
 go_returns
 refine⟨z03 ?_,rfl⟩
 rw[Lib.u64_and1 _ (by omega) (by omega)]
 unfold z42 wrap64
 by_cases h0:n % 2=0
 ·rw[if_pos h0,show ((n:Int) % 2)=0 from by omega,show ((n:Int)/2)=((n/2:Nat):Int)from by omega]
  exact zpx _ (by omega)
 ·rw[if_neg h0,show ((n:Int) % 2)=1 from by omega,show ((n:Int)/2)=((n/2:Nat):Int)from by omega]
  exact zpy _ (by omega)
def bC (l:List UInt8):List Value:=l.map fun b => .int .u8 (b.toNat:Int)
theorem yka (m:Nat):bits .or .u8 ((m:Int) % 256) 128=((128+m % 128:Nat):Int):=by
 rw[Lib.u8_or128_any _ (by omega) (by omega)];omega
set_option maxHeartbeats 1000000 in
set_option maxRecDepth 20000 in
theorem zoh (n:Nat) (h:n<18446744073709551616) (w:World) :
 Calls Tryz.prog 108 #[.int .u64 n] w fun e w'=>e = .returned (.string (zi9 n))∧Below w.heap.size w w':=by
 go_enter Tryz.func108,Tryz.ntmps108
 go_wp2_with fail
 go_loopw [0,3] (fun mv v wr=>∃(m f:Nat) (done:List UInt8),mv = .int .u64 m∧m<18446744073709551616∧Hid (m<128 ^ (f+1)∧done++zcd f m=zg7 n∧done.length+f=9∧wr.ownsRow w.heap.size 5 1 v done.length (bC done)∧Below w.heap.size w wr)) (fun mv _ _=>(intOf mv).toNat)
 case atStart=>exact⟨n,9,[],rfl,h,by simpa using Nat.lt_of_lt_of_le h (by decide),rfl,rfl,⟨by simp[bC],.inl ⟨rfl,rfl⟩⟩,Below.refl _ _⟩
 case round =>
  obtain⟨m,f,done,rfl,hm,hI⟩:=hrel
  have hor:=yka m
  have hdl:done.length≤9:=by have:=hI.out.2.2.1;omega
  have hB:=hI.out.2.2.2.2.size
  by_cases h8:128≤m
  ·obtain⟨f,rfl⟩:∃f',f=f'+1:=by
    cases f with
    | zero=>have:=hI.out.1;simp at this;omega
    | succ f=>exact⟨f,rfl⟩
   have HI:=PLift.up hI.out
   clear hI
   go_wp2_with (at_builtin;refine z98 _ rfl _ _ _ rfl w.heap.size _ _ _ z9y _ done.length (bC done) rfl (HI.down.2.2.2.1.alloc _) (some ⟨wr.heap.size,0,none⟩) 1 1 [.int .u8 ((128+m % 128:Nat):Int)] rfl ?_ ?_ ?_ ?_ ?_ ?_ ?_ ?_)
   ·rfl
   ·simp
   ·intro ad had j u hu
    obtain rfl:=Option.some.inj had
    match j,hu with
    | 0,hu=>simp at hu;subst hu;simp[Addr.add_lit,go_sem]
    | j+1,hu=>simp at hu
   ·simp[Value.oneCell']
   ·simp only[maxLen];omega
   ·omega
   ·simp;omega
   ·intro v' w2 hown hg _
    have hbb:Below w.heap.size w w2:=(HI.down.2.2.2.2.alloc (by omega) _).grown hg (by simp;omega) (fun q hq=>(HI.down.2.2.2.1.lt q hq).1)
    have HO:=PLift.up hown
    have HBB:=PLift.up hbb
    clear hown hbb hg
    go_wp2_with fail
    go_roundw
    case rel =>
     have hp:zcd (f+1) m=UInt8.ofNat (128+m % 128)::zcd f (m/128):=by simp[zcd];omega
     refine⟨m/128,f,done ++ [UInt8.ofNat (128+m % 128)],?_,by omega,?_,?_,?_,?_,HBB.down⟩
     ·simp
     ·have:=HI.down.1;rw[Nat.pow_succ]at this;exact Nat.div_lt_of_lt_mul (by omega)
     ·have:=HI.down.2.1;rw[hp]at this;simpa using this
     ·have:=HI.down.2.2.1;simp;omega
     ·have:=HO.down
      have e:bC (done ++ [UInt8.ofNat (128+m % 128)])=bC done ++ [.int .u8 ((128+m % 128:Nat):Int)]:=by
       simp only[bC,List.map_append,List.map_cons,List.map_nil]
       rw[zbf _ (by omega)]
      rw[e];simpa using this
    case measure=>simp[intOf];omega
  ·have HI:=PLift.up hI.out
   clear hI
   go_wp2_with (at_builtin;refine z98 _ rfl _ _ _ rfl w.heap.size _ _ _ z9y _ done.length (bC done) rfl (HI.down.2.2.2.1.alloc _) (some ⟨wr.heap.size,0,none⟩) 1 1 [.int .u8 (m:Int)] rfl ?_ ?_ ?_ ?_ ?_ ?_ ?_ ?_)
   ·rfl
   ·simp
   ·intro ad had j u hu
    obtain rfl:=Option.some.inj had
    match j,hu with
    | 0,hu=>simp at hu;subst hu;simp[Addr.add_lit,go_sem]
    | j+1,hu=>simp at hu
   ·simp[Value.oneCell']
   ·simp only[maxLen];omega
   ·omega
   ·simp;omega
   ·intro v' w2 hown hg _
    have hbb:Below w.heap.size w w2:=(HI.down.2.2.2.2.alloc (by omega) _).grown hg (by simp;omega) (fun q hq=>(HI.down.2.2.2.1.lt q hq).1)
    have hfin:done ++ [UInt8.ofNat m]=zg7 n:=by have:=HI.down.2.1;rw[ztg f m (by omega)]at this;exact this
    have e:bC done ++ [.int .u8 (m:Int)]=bC (zg7 n):=by
     rw[←hfin]
     simp only[bC,List.map_append,List.map_cons,List.map_nil]
     rw[zbf _ (by omega)]
    have hlen:done.length+1=(zg7 n).length:=by rw[←hfin];simp
    rw[e,hlen]at hown
    rcases hown.2 with ⟨_,h0⟩|⟨g,cap,cur,rfl,_,hgc,_⟩
    ·omega
    have hcell:=hown.cells (g:=g) rfl
    have hcv:=run_convert_bytes_back (P:=Tryz.prog) w2 227 9 5 ⟨g,0,none⟩ cap (zg7 n) Tryz.underlying227 Tryz.underlying5 Tryz.underlying9 (by
     intro j hj
     exact hcell j _ (by simp only[bC,List.getElem?_map,List.getElem?_eq_getElem hj,Option.map_some]))
    have HBB:=PLift.up hbb
    clear hown hbb hg hcell e hfin HI hgc
    generalize hq:(zg7 n).length=q at *
    clear hlen hdl hB
    go_wp2_with fail
    go_returns
    exact⟨rfl,HBB.down⟩
def zc9 (s:ByteArray):ByteArray × Int :=
 if s.size<4 then (⟨#[]⟩,3)else if zhj (s.extract 0 (s.size-4))=s then (s.extract 0 (s.size-4),0)else (⟨#[]⟩,5)
theorem zr7 (s:ByteArray) (h:4≤s.size):(s.extract 0 (s.size-4)).size=s.size-4:=by rw[ByteArray.size_extract];omega
set_option maxHeartbeats 800000 in
theorem z6f (s:ByteArray) (w:World) (hs:s.size≤140737488351232) :
 Calls Tryz.prog 35 #[.string s] w fun e w'=>e = .returned (.tuple #[.string (zc9 s).1,.int .i64 (zc9 s).2])∧Below w.heap.size w w':=by
 by_cases h4:s.size<4
 ·have hr:zc9 s=(⟨#[]⟩,3):=by simp[zc9,h4]
  rw[hr]
  go_enter Tryz.func35,Tryz.ntmps35
  go_wp2_with fail
  go_ret2
  exact⟨rfl,Below.refl _ _⟩
 ·have hex:=zr7 s (by omega)
  by_cases hq:zhj (s.extract 0 (s.size-4))=s
  ·have hr:zc9 s=(s.extract 0 (s.size-4),0):=by simp[zc9,h4,hq]
   rw[hr]
   have HQ:=Lib.hid hq;clear hq hr
   go_enter Tryz.func35,Tryz.ntmps35
   go_wp2_with fail
   refine(zoa _ _ (by omega)).mono ?_
   rintro e w1 ⟨rfl,hb⟩
   rw[HQ.out]
   have HB:=Lib.hid hb;clear hb
   go_wp2_with fail
   go_ret2
   exact⟨rfl,HB.out⟩
  ·have hr:zc9 s=(⟨#[]⟩,5):=by simp[zc9,h4,hq]
   rw[hr]
   go_enter Tryz.func35,Tryz.ntmps35
   go_wp2_with fail
   refine(zoa _ _ (by omega)).mono ?_
   rintro e w1 ⟨rfl,hb⟩
   have HB:=Lib.hid hb;clear hb hr hex
   generalize zhj (s.extract 0 (s.size-4))=t at *
   have hne:=z9a hq
   clear hq
   go_wp2_with fail
   go_ret2
   exact⟨rfl,HB.out⟩
def vals (l:List UInt8):Nat:=l.foldr (fun b a=>b.toNat % 128+128*a) 0
theorem zsr (l k:List UInt8):vals (l++k)=vals l+128 ^ l.length*vals k:=by
 induction l with
 | nil=>simp[vals]
 | cons b l ih =>
  have e:vals (b::l++k)=b.toNat % 128+128*vals (l++k):=rfl
  have e2:vals (b::l)=b.toNat % 128+128*vals l:=rfl
  rw[e,e2,ih,List.length_cons,Nat.pow_succ,Nat.mul_add,Nat.mul_comm (128 ^ l.length) 128,Nat.mul_assoc];omega
theorem yaf (l:List UInt8):vals l<128 ^ l.length:=by
 induction l with
 | nil=>simp[vals]
 | cons b l ih =>
  have e2:vals (b::l)=b.toNat % 128+128*vals l:=rfl
  rw[e2,List.length_cons,Nat.pow_succ];omega
def zmo (s:ByteArray) (i:Nat):Nat:=vals (s.data.toList.take i) % 18446744073709551616
def zgy (s:ByteArray):Nat × ByteArray × Int :=
 match s.data.toList.findIdx? (fun b=>b<128)with
 | some i=>if i<10∧zi9 (zmo s (i+1))=s.extract 0 (i+1)then (zmo s (i+1),s.extract (i+1) s.size,0)else (0,⟨#[]⟩,4)
 | none=>(0,⟨#[]⟩,if s.size<10 then 3 else 4)
def yng (s:ByteArray) (i:Nat):Prop:=∃h:i<s.size,s[i].toNat<128∧∀j (hj:j<i),128≤(s[j]'(by omega)).toNat
theorem z3f (s:ByteArray) (i:Nat) (h:i<s.size):s.data.toList[i]'(by simpa using h)=s[i]:=rfl
theorem z38 (s:ByteArray):(∃i,yng s i∧s.data.toList.findIdx? (fun b=>b<128)=some i)∨((∀j (hj:j<s.size),128≤s[j].toNat)∧s.data.toList.findIdx? (fun b=>b<128)=none):=by
 cases h:s.data.toList.findIdx? (fun b=>b<128)with
 | some i =>
  refine .inl ⟨i,?_,rfl⟩
  rw[List.findIdx?_eq_some_iff_getElem]at h
  obtain⟨hi,h1,h2⟩:=h
  refine⟨by simpa using hi,?_,fun j hj => ?_⟩
  ·have h1':(s.data[i]'(by simpa using hi)).toNat<128:=by simpa[UInt8.lt_iff_toNat_lt]using h1
   exact h1'
  ·have:=h2 j hj
   have hi':i<s.data.size:=by simpa using hi
   have h2':128≤(s.data[j]'(by omega)).toNat:=by simpa[UInt8.lt_iff_toNat_lt]using this
   exact h2'
 | none =>
  refine .inr ⟨fun j hj => ?_,rfl⟩
  rw[List.findIdx?_eq_none_iff]at h
  have:=h s[j] (by rw[←z3f s j hj];exact List.getElem_mem _)
  simpa[UInt8.lt_iff_toNat_lt]using this
theorem zzx (s:ByteArray):zmo s 0=0:=rfl
theorem zzy (s:ByteArray) (i:Nat) (h:i<s.size) (h9:i<10):zmo s (i+1)=zmo s i+s[i].toNat % 128*128 ^ i % 18446744073709551616∧zmo s i<128 ^ i∧128 ^ i*2≤18446744073709551616:=by
 unfold zmo
 rw[zjs s i h,zsr]
 have hl:(s.data.toList.take i).length=i:=by simp;omega
 have hv:=yaf (s.data.toList.take i)
 rw[hl]at hv ⊢
 have e:vals [s[i]]=s[i].toNat % 128:=by simp[vals]
 rw[e]
 have hp:128 ^ i*2≤18446744073709551616:=by
  have:128 ^ i≤128 ^ 9:=Nat.pow_le_pow_right (by decide) (by omega)
  omega
 generalize vals (s.data.toList.take i)=v at *
 have hm:v % 18446744073709551616=v:=Nat.mod_eq_of_lt (by omega)
 rw[hm]
 refine⟨?_,hv,hp⟩
 rw[Nat.mul_comm (128 ^ i)]
 generalize s[i].toNat % 128=x at *
 have hdv:∃q,18446744073709551616=128 ^ i*q:=by
  refine⟨2 ^ (64-7*i),?_⟩
  rw[show (128:Nat)=2 ^ 7 from rfl,←Nat.pow_mul,←Nat.pow_add,show 7*i+(64-7*i)=64 from by omega]
 obtain⟨q,hq⟩:=hdv
 rw[hq,Nat.mul_comm x,Nat.mul_mod_mul_left,Nat.add_mod,Nat.mul_mod_mul_left,Nat.mod_eq_of_lt (show v<128 ^ i*q from by rw[←hq];omega)]
 have hq0 : 0 < q := by rcases Nat.eq_zero_or_pos q with rfl | h0; · simp at hq
                        ·exact h0
 have hxq:x % q<q:=Nat.mod_lt _ hq0
 apply Nat.mod_eq_of_lt
 have:128 ^ i*(x % q)+128 ^ i≤128 ^ i*q:=by rw[←Nat.mul_succ];exact Nat.mul_le_mul_left _ hxq
 omega
theorem zwp {s:ByteArray} {i:Nat} (h:s.data.toList.findIdx? (fun b=>b<128)=some i):zgy s=if i<10∧zi9 (zmo s (i+1))=s.extract 0 (i+1)then (zmo s (i+1),s.extract (i+1) s.size,0)else (0,⟨#[]⟩,4):=by simp[zgy,h]
theorem z3d {s:ByteArray} (h:s.data.toList.findIdx? (fun b=>b<128)=none):zgy s=(0,⟨#[]⟩,if s.size<10 then 3 else 4):=by simp[zgy,h]
structure Ends (s : ByteArray) (e : Nat) (r : Nat × ByteArray × Int) : Prop where
 le:e≤s.size
 big:∀j (hj:j<s.size),j<e→128≤s[j].toNat
 small:∀(h:e<s.size),s[e].toNat<128
 res:zgy s=r
theorem zw1 (s:ByteArray):∃e r,Ends s e r∧(e<s.size→r=if e<10∧zi9 (zmo s (e+1))=s.extract 0 (e+1)then (zmo s (e+1),s.extract (e+1) s.size,0)else (0,⟨#[]⟩,4))∧(e=s.size→r=(0,⟨#[]⟩,if s.size<10 then 3 else 4)):=by
 rcases z38 s with ⟨i,⟨h1,h2,h3⟩,h4⟩|⟨h1,h2⟩
 ·exact⟨i,_,⟨by omega,fun j _ hj=>h3 j hj,fun _=>h2,rfl⟩,fun _=>zwp h4,fun h=>by omega⟩
 ·exact⟨s.size,_,⟨Nat.le_refl _,fun j hj _=>h1 j hj,fun h=>absurd h (Nat.lt_irrefl _),rfl⟩,fun h=>absurd h (Nat.lt_irrefl _),fun _=>z3d h2⟩
set_option maxHeartbeats 2000000 in
set_option maxRecDepth 20000 in
theorem z3c (s:ByteArray) (w:World) (hs:s.size≤140737488351232) :
 Calls Tryz.prog 81 #[.string s] w fun e w'=>e = .returned (.tuple #[.int .u64 (zgy s).1,.string (zgy s).2.1,.int .i64 (zgy s).2.2])∧Below w.heap.size w w':=by
 obtain⟨e,r,hE,hr1,hr2⟩:=zw1 s
 rw[hE.res]
 have HE:=PLift.up hE
 have HR1:=PLift.up hr1
 have HR2:=PLift.up hr2
 have hle:=hE.le
 clear hE hr1 hr2
 go_enter Tryz.func81,Tryz.ntmps81
 go_wp2_with fail
 go_loop [5,6] (fun nv iv=>∃k:Nat,k≤e∧k≤10∧iv = .int .i64 k∧nv = .int .u64 (zmo s k)) (fun _ iv=>10-(intOf iv).toNat)
 case atStart=>exact⟨0,by omega,by omega,rfl,by rw[zzx];rfl⟩
 case round =>
  obtain⟨k,hk,hk10,rfl,rfl⟩:=hrel
  by_cases hlt:k<10
  ·by_cases hks:k<s.size
   ·obtain⟨hv1,hv2,hv3⟩:=zzy s k hks hlt
    have hb:k<e→128≤s[k].toNat:=fun h=>HE.down.big k hks h
    have hsm:¬k<e→s[k].toNat<128:=(fun h=>by
     obtain rfl:k=e:=by omega
     exact HE.down.small hks)
    have hx:=UInt8.toNat_lt s[k]
    have hn:bits .or .u64 (zmo s k:Nat) (IntKind.u64.wrap (IntKind.u64.wrap (bits .and .u8 (s[k].toNat:Int) 127)*2 ^ (7*k)))=((zmo s (k+1):Nat):Int):=by
     rw[u8_and127 _ (by omega) (by omega),IntKind.wrap_u64,IntKind.wrap_u64,hv1]
     have e1:((s[k].toNat:Int) % 128 % 18446744073709551616)=((s[k].toNat % 128:Nat):Int):=by omega
     have e2:((2:Int) ^ (7*k))=((128 ^ k:Nat):Int):=by rw[show (128:Nat) ^ k=2 ^ (7*k)from by rw[Nat.pow_mul]];simp
     rw[e1,e2,←Int.natCast_mul]
     have e3:((s[k].toNat % 128*128 ^ k:Nat):Int) % 18446744073709551616=((s[k].toNat % 128*128 ^ k % 18446744073709551616:Nat):Int):=by omega
     rw[e3,u64_or_nat _ _ (by omega) (by omega)]
     congr 1
     rw[Nat.or_comm,nat_join (7*k) _ _ ?_ ?_,Nat.add_comm]
     ·rw[show (2:Nat) ^ (7*k)=128 ^ k from by rw[Nat.pow_mul]]
      have hd:128 ^ k ∣ 18446744073709551616:=by
       refine⟨2 ^ (64-7*k),?_⟩
       rw[show (128:Nat)=2 ^ 7 from rfl,←Nat.pow_mul,←Nat.pow_add,show 7*k+(64-7*k)=64 from by omega]
      rw[Nat.mod_mod_of_dvd _ hd];exact Nat.mul_mod_left _ _
     ·rw[show (2:Nat) ^ (7*k)=128 ^ k from by rw[Nat.pow_mul]];exact hv2
    have hvl:zmo s (k+1)<18446744073709551616:=Nat.mod_lt _ (by decide)
    clear hv1 hv2 hv3
    by_cases hke:k<e
    ·have hbx:=hb hke
     clear hb hsm
     go_wp2_with fail
     go_round
     case rel=>exact⟨k+1,by omega,by omega,by go_num,rfl⟩
     case measure=>simp[intOf];omega
    ·have hsx:=hsm hke
     obtain rfl:k=e:=by omega
     clear hb hsm
     have hr:=HR1.down hks
     have k0:(0:Int)≤(k:Int)+1:=by omega
     have k1:(k:Int)+1≤(s.size:Int):=by omega
     have k2:IntKind.i64.wrap ((k:Int)+1)=(k:Int)+1:=IntWalk.i64_in _ (by omega)
     have k3:((k:Int)+1).toNat=k+1:=by omega
     by_cases hq:zi9 (zmo s (k+1))=s.extract 0 (k+1)
     ·rw[if_pos ⟨hlt,hq⟩]at hr
      subst hr
      have P:=PLift.up (fun w=>zoh (zmo s (k+1)) hvl w)
      rw[hq]at P
      clear hq
      go_wp2_with fail
      go_region_held3 (fun _=>True) (trivial) (first|(go_at_call 108;refine(P.down _).mono ?_;rintro e w1 ⟨rfl,hb1⟩;have HB1:=PLift.up hb1;clear hb1))
      all_goals go_wp2_with fail
      all_goals(go_quiet (fail))
      all_goals go_wp2_with fail
      all_goals go_returns
      all_goals refine⟨?_,((Below.refl _ _).drew.trans HB1.down).drewn _⟩
      all_goals(simp;done)
     ·rw[if_neg (fun h=>hq h.2)]at hr
      subst hr
      have P:=PLift.up (fun w=>zoh (zmo s (k+1)) hvl w)
      generalize zi9 (zmo s (k+1))=T at *
      have hne:=z9a hq
      clear hq
      go_wp2_with fail
      go_region_held3 (fun _=>True) (trivial) (first|(go_at_call 108;refine(P.down _).mono ?_;rintro e w1 ⟨rfl,hb1⟩;have HB1:=PLift.up hb1;clear hb1))
      all_goals go_wp2_with fail
      all_goals go_returns
      all_goals refine⟨?_,(Below.refl _ _).drew.trans HB1.down⟩
      all_goals(simp;done)
   ·have hr:=HR2.down (by omega)
    have hif:(if s.size<10 then (3:Int)else 4)=3:=if_pos (by omega)
    rw[hif]at hr
    subst hr
    go_wp2_with fail
    go_returns
    exact⟨rfl,Below.refl _ _⟩
  ·by_cases hks:k<s.size
   ·have hr:r=(0,⟨#[]⟩,4):=by
     by_cases he:e<s.size
     ·rw[HR1.down he,if_neg (by omega)]
     ·rw[HR2.down (by omega),if_neg (by omega)]
    subst hr
    go_wp2_with fail
    go_returns
    exact⟨rfl,Below.refl _ _⟩
   ·have hr:=HR2.down (by omega)
    have hif:(if s.size<10 then (3:Int)else 4)=4:=if_neg (by omega)
    rw[hif]at hr
    subst hr
    go_wp2_with fail
    go_returns
    exact⟨rfl,Below.refl _ _⟩
theorem z4h:(Tryz.prog.info? 229).map (·.size)=some 2:=by kernel_rfl
set_option maxHeartbeats 1000000 in
set_option maxRecDepth 100000 in
theorem zmy (b:Nat) (w:World) (h0:w.cell? ⟨b,0,none⟩=some (.pointer (some ⟨b,0,none⟩))) :
 Calls Tryz.prog 144 #[.pointer (some ⟨b,0,none⟩)] w fun e w'=>e = .returned (.tuple #[])∧w'=w:=by
 obtain⟨j,hj,_⟩:=Option.map_eq_some_iff.1 z4h
 go_enter Tryz.func144,Tryz.ntmps144
 go_wp2
 rw[Lib.run_neq_ptr_same w _ Tryz.underlying226 hj]
 go_wp2
 go_end0
 exact⟨rfl,rfl⟩
set_option maxHeartbeats 1000000 in
set_option maxRecDepth 100000 in
theorem zmg (b:Nat) (w:World) (h0:w.cell? ⟨b,0,none⟩=some (.pointer none)) (hsh:w.shape? b=some (229,2)) (hfz:w.frozen? ⟨b,0,none⟩=false) :
 Calls Tryz.prog 144 #[.pointer (some ⟨b,0,none⟩)] w fun e w'=>e = .returned (.tuple #[])∧w'=w.setCell ⟨b,0,none⟩ (.pointer (some ⟨b,0,none⟩)):=by
 obtain⟨j,hj,hjs⟩:=Option.map_eq_some_iff.1 z4h
 go_enter Tryz.func144,Tryz.ntmps144
 go_wp2
 rw[Lib.run_to_unsafe w ⟨b,0,none⟩ Tryz.underlying226 Tryz.underlying310 hj (by rw[hjs];decide) hsh (Nat.zero_lt_succ 1)]
 simp only[Result.andThen]
 rw[Oper.upon_value]
 go_wp2
 rw[run_callFunc_extern Tryz.func170 (by kernel_rfl) (by kernel_rfl) (by kernel_rfl) (e:=Extern.AbiNoEscape.same) (by kernel_rfl)]
 rw[Lib.run_noEscape]
 simp only[Result.andThen]
 rw[Oper.upon_value]
 go_wp2
 rw[Lib.run_from_unsafe w ⟨b,0,none⟩ Tryz.underlying310 Tryz.underlying226 hj hsh (by kernel_rfl)]
 simp only[Result.andThen]
 rw[Oper.upon_value]
 go_wp2
 go_end0
 exact⟨rfl,rfl⟩
theorem z4g (B b:Nat) (bs:List Value) (w:World) (h:Lib.IsBuilder 229 5 B b bs w) :
 Calls Tryz.prog 144 #[.pointer (some ⟨b,0,none⟩)] w fun e w'=>e = .returned (.tuple #[])∧(Lib.BuilderAt 229 5 B b (.pointer (some ⟨b,0,none⟩)) bs w'∧Below B w w'):=by
 rcases h with h|h
 ·refine(zmg b w h.cell0 h.shape h.frozen0).mono ?_
  rintro e w' ⟨rfl,rfl⟩
  exact⟨rfl,h.used _,(Below.refl B w).setCell (p:=⟨b,0,none⟩) h.1 _⟩
 ·refine(zmy b w h.cell0).mono ?_
  rintro e w' ⟨rfl,rfl⟩
  exact⟨rfl,h,Below.refl B _⟩
set_option maxHeartbeats 2000000 in
set_option maxRecDepth 100000 in
theorem zsf (B b:Nat) (bs:List Value) (s:ByteArray) (w:World) (h:Lib.IsBuilder 229 5 B b bs w) (hlen:bs.length+s.size≤140737488355328) (hBw:B≤w.heap.size) :
 Calls Tryz.prog 107 #[.pointer (some ⟨b,0,none⟩),.string s] w fun e w'=>e = .returned (.tuple #[.int .i64 s.size,.nilIface])∧(Lib.BuilderAt 229 5 B b (.pointer (some ⟨b,0,none⟩)) (bs++Lib.strCells s) w'∧Below B w w'):=by
 obtain⟨i0,hi,hz0,hz1,hz2⟩:=info_parts (show (Tryz.prog.info? 5).map (fun i=>(i.zero,i.size,i.bytes))=some (some (.int .u8 0),1,1)by kernel_rfl)
 go_enter Tryz.func107,Tryz.ntmps107
 go_wp2_with (go_at_call 144;refine(z4g B b bs _ h).mono ?_)
 rintro e w1 ⟨rfl,h1,hb1⟩
 obtain⟨hB,v,hbk,hown,hne⟩:=h1
 have c0:w1.cell? ⟨b,0,none⟩=some (.pointer (some ⟨b,0,none⟩)):=by rw[Lib.cell_of_heap hbk];rfl
 have c1:w1.cell? ⟨b,1,none⟩=some v:=by rw[Lib.cell_of_heap hbk];rfl
 go_wp2_with (at_builtin;refine Lib.wpList_append_own_string _ rfl _ _ 227 9 rfl B 5 i0 Tryz.underlying227 Tryz.underlying9 hi hz0 hz1 hz2 _ _ _ rfl hown s rfl ?c3 ?c4 ?c5 ?_)
 case c3=>unfold maxLen;omega
 case c4=>omega
 case c5=>have:=hb1.size;omega
 intro v' w2 hown' hgrow _
 have hlt:b<w1.heap.size:=by
  rcases Nat.lt_or_ge b w1.heap.size with h'|h'
  ·exact h'
  ·simp[Array.getElem?_eq_none h']at hbk
 have hb2:w2.heap[b]? = some (.cells #[.pointer (some ⟨b,0,none⟩),v] 229 (0,0)):=by
  rw[hgrow.block b hlt (fun e=>hne e.symm)]
  exact hbk
 have d0:w2.cell? ⟨b,0,none⟩=some (.pointer (some ⟨b,0,none⟩)):=by rw[Lib.cell_of_heap hb2];rfl
 have d1:w2.cell? ⟨b,1,none⟩=some v:=by rw[Lib.cell_of_heap hb2];rfl
 have f1:w2.frozen? ⟨b,1,none⟩=false:=Lib.frozen_of_heap hb2 1
 obtain⟨ao,n',cap,rfl⟩:∃ao n' cap,v' = .slice ao n' cap:=by
  rcases hown'.2 with ⟨hv,_⟩|⟨g,cap,cur,hv,_⟩
  ·exact⟨_,_,_,hv⟩
  ·exact⟨_,_,_,hv⟩
 go_wp2
 go_ret2
 refine⟨rfl,?_,?_⟩
 ·exact Lib.BuilderAt.put (T:=229) (e:=5) hB hb2 (bs':=bs++Lib.strCells s) (by simpa[Lib.strCells_length]using hown') (by decide)
 ·exact(hb1.grown hgrow (by have:=hb1.size;omega) (fun k hk=>(hown.lt k hk).1)).setCell (p:=⟨b,1,none⟩) hB _
theorem zxd {w w':World} {B b:Nat} {bs:List Value} (h:Lib.IsBuilder 229 5 B b bs w) (hb:Below w.heap.size w w'):Lib.IsBuilder 229 5 B b bs w':=by
 have key:∀p,Lib.BuilderAt 229 5 B b p bs w→Lib.BuilderAt 229 5 B b p bs w':=by
  rintro p ⟨h1,v,h2,ho,h3⟩
  refine⟨h1,v,(hb.block b (Array.getElem?_eq_some_iff.1 h2).1).trans h2,?_,h3⟩
  refine⟨ho.1,?_⟩
  rcases ho.2 with ⟨g1,g2⟩|⟨g,cap,cur,g1,g2,g3,g4⟩
  ·exact .inl ⟨g1,g2⟩
  ·exact .inr ⟨g,cap,cur,g1,g2,(hb.block g (Array.getElem?_eq_some_iff.1 g3).1).trans g3,g4⟩
 exact h.imp (key _) (key _)
def paN (n:Int):List UInt8:=zg7 (zgl n)
def paK (xs:List Int) (k:Nat):List UInt8:=zg7 xs.length++(xs.take k).flatMap paN
def paR (xs:List Int):ByteArray × Int:=if 1000<xs.length then (⟨#[]⟩,2)else (⟨(paK xs xs.length).toArray⟩,0)
theorem zq4 (n:Nat):(zg7 n).length≤10:=(zig 9 n).2
theorem zlm (xs:List Int) (k:Nat):(paK xs k).length≤10+10*k:=by
 unfold paK
 rw[List.length_append]
 have h1:=zq4 xs.length
 have h2:∀l:List Int,(l.flatMap paN).length≤10*l.length:=by
  intro l
  induction l with
  | nil=>simp
  | cons x l ih =>
   have:=zq4 (zgl x)
   have e:paN x=zg7 (zgl x):=rfl
   rw[List.flatMap_cons,List.length_append,List.length_cons,e];omega
 have h3:=h2 (xs.take k)
 have h4:(xs.take k).length≤k:=List.length_take_le _ _
 omega
theorem z6b (xs:List Int) (k:Nat) (h:k<xs.length):paK xs (k+1)=paK xs k++zg7 (zgl xs[k]):=by
 unfold paK
 rw[zxu xs k h,List.flatMap_append,List.append_assoc];simp[paN]
set_option maxHeartbeats 2000000 in
set_option maxRecDepth 20000 in
theorem zyg (a:Option Addr) (c B:Nat) (xs:List Int) (w:World) (hE:Els w B a 1 z7r xs) (hx:∀x∈xs,I64 x) (hl:xs.length≤140737488351232) (hB:B≤w.heap.size) :
 Calls Tryz.prog 62 #[.slice a xs.length c] w fun e w'=>e = .returned (.tuple #[.string (paR xs).1,.int .i64 (paR xs).2])∧Below w.heap.size w w':=by
 have HE:=PLift.up hE
 have HX:=PLift.up hx
 clear hE hx
 by_cases hn:1000<xs.length
 ·rw[show paR xs=(⟨#[]⟩,2)from if_pos hn]
  go_enter Tryz.func62,Tryz.ntmps62
  go_wp2_with fail
  go_returns
  exact⟨rfl,Below.refl _ _⟩
 ·rw[show paR xs=(⟨(paK xs xs.length).toArray⟩,0)from if_neg hn]
  go_enter Tryz.func62,Tryz.ntmps62
  go_wp2_with fail
  refine(zoh xs.length (by omega) _).mono ?_
  rintro e w1 ⟨rfl,hb1⟩
  have BL:PLift (Lib.IsBuilder 229 5 w.heap.size w.heap.size [] w1):=PLift.up (zxd (Lib.fresh_isBuilder 229 5 w) hb1)
  have HB1:PLift (Below w.heap.size w w1):=PLift.up ((z4i w _).trans (hb1.mono (by simp)))
  have hs1:=HB1.down.size
  clear hb1
  have hp0:zi9 xs.length=⟨(paK xs 0).toArray⟩:=by simp[paK,zi9]
  rw[hp0]
  clear hp0
  go_wp2_with fail
  refine(zsf w.heap.size w.heap.size [] _ w1 BL.down (by rw[zpn];have:=zlm xs 0;simp;omega) hs1).mono ?_
  rintro e w2 ⟨rfl,hw2,hb2⟩
  have BL2:PLift (Lib.IsBuilder 229 5 w.heap.size w.heap.size (Lib.byteCells (paK xs 0)) w2):=PLift.up (.inr hw2)
  have HB2:=PLift.up (HB1.down.trans hb2)
  clear hw2 hb2 BL HB1 hs1
  go_wp2_with fail
  go_loopw [17] (fun iv wr=>∃(k:Nat),k≤xs.length∧iv = .int .i64 k∧Hid (Lib.IsBuilder 229 5 w.heap.size w.heap.size (Lib.byteCells (paK xs k)) wr∧Below w.heap.size w wr)) (fun iv _=>xs.length-(intOf iv).toNat)
  case atStart=>exact⟨0,by omega,rfl,BL2.down,HB2.down⟩
  case round =>
   obtain⟨k,hk,rfl,hI⟩:=hrel
   have hBw:=hI.out.2.size
   by_cases hlt:k<xs.length
   ·obtain⟨b,o,rfl,hb,hc⟩:=(HE.down.below hI.out.2 hB).i64 k hlt
    have hxk:=HX.down xs[k] (List.getElem_mem hlt)
    have hs:=z6b xs k hlt
    have hkl:=zlm xs k
    generalize xs[k]=x at *
    have hf:=zwv x hxk
    have hps:=zyj (zgl x)
    have F:=PLift.up (z7l x hxk)
    have Q:=PLift.up (fun w=>zoh (zgl x) hf w)
    have HS:PLift (Lib.byteCells (paK xs k)++Lib.strCells (zi9 (zgl x))=Lib.byteCells (paK xs (k+1))):=PLift.up (by rw[hs];simp[Lib.byteCells,Lib.strCells,zi9])
    generalize zgl x=y at *
    generalize zi9 y=Y at *
    have HI:=PLift.up hI.out
    clear hI hs hxk
    go_wp2_with fail
    refine(F.down _).mono ?_
    rintro e w2 ⟨rfl,rfl⟩
    go_wp2_with fail
    refine(Q.down _).mono ?_
    rintro e w2 ⟨rfl,hb2⟩
    have BL3:=PLift.up (zxd HI.down.1 hb2)
    have HB3:=PLift.up (HI.down.2.trans (hb2.mono hBw))
    have hBw3:=HB3.down.size
    clear hb2
    go_wp2_with fail
    refine(zsf w.heap.size w.heap.size _ _ w2 BL3.down (by simp[Lib.byteCells];omega) hBw3).mono ?_
    rintro e w3 ⟨rfl,hw3,hb3⟩
    have HB4:=PLift.up (HB3.down.trans hb3)
    have HW3:=PLift.up hw3
    clear hw3 hb3
    go_wp2_with fail
    go_roundw
    case rel=>exact⟨k+1,by omega,by go_num,by rw[←HS.down];exact .inr HW3.down,HB4.down⟩
    case measure=>simp[intOf];omega
   ·obtain rfl:k=xs.length:=by omega
    have HI:=PLift.up hI.out
    clear hI
    go_wp2_with fail
    refine(Tryz.Builder_String_any w.heap.size w.heap.size (paK xs xs.length) wr HI.down.1 hBw).mono ?_
    rintro e w2 ⟨rfl,hb2⟩
    have HB2:=PLift.up (HI.down.2.trans hb2)
    clear hb2
    go_wp2_with fail
    go_returns
    exact⟨rfl,HB2.down⟩
def mk (m:Nat) (xs:List Nat):Nat:=xs.foldl (fun m n=>m ^^^ mx n) m
theorem ykn (xs:List Nat):∀m,m<18446744073709551616→mk m xs<18446744073709551616:=by
 induction xs with
 | nil=>intro m h;exact h
 | cons x xs ih=>intro m h;exact ih _ (z96 _ _ h (z6r x))
theorem yb5 (m:Nat) (xs:List Nat) (x:Nat):mk m (xs ++ [x])=mk m xs ^^^ mx x:=by simp[mk]
structure U64s where
 a:Option Addr
 c:Nat
 xs:List Nat
def U64s.val (u:U64s):Value := .slice u.a u.xs.length u.c
def U64s.enc (u:U64s):List Value := [u.val]
def cnt (l:List Nat) (i k:Nat):Nat:=(l.take k).count (l.getD i 0)
def pcK (n:Nat):Nat→Nat
 | 0=>0
 | k+1=>pcK n k+n/2 ^ k % 2
theorem z07 (n:Nat):∀k,pcK n k≤k
 | 0=>Nat.le_refl _
 | k+1=>by have:=z07 n k;have:n/2 ^ k % 2<2:=Nat.mod_lt _ (by decide);simp only[pcK];omega
theorem ybi:∀m:Fin 256,Lib.pop8 (m.val:Int)=(pcK m.val 8:Int):=by decide +kernel
theorem zkh (x:Nat):Lib.pop8 ((x:Int) % 256)=(pcK x 8:Int):=by
 have h:=ybi ⟨x % 256,Nat.mod_lt _ (by decide)⟩
 simp only at h
 rw[show ((x:Int) % 256)=((x % 256:Nat):Int)from by omega,h]
 congr 1
 simp only[pcK]
 omega
theorem zoi (n a:Nat):∀b,pcK n (a+b)=pcK n a+pcK (n/2 ^ a) b
 | 0=>rfl
 | b+1=>by
  show pcK n (a+b)+n/2 ^ (a+b) % 2=pcK n a+(pcK (n/2 ^ a) b+n/2 ^ a/2 ^ b % 2)
  rw[zoi n a b,Nat.pow_add,Nat.div_div_eq_div_mul,Nat.add_assoc]
theorem ym4 (n:Nat):pcK n 32=pcK (n/16777216) 8+pcK (n/65536) 8+pcK (n/256) 8+pcK n 8:=by
 have e1:=zoi n 8 24
 have e2:=zoi (n/2 ^ 8) 8 16
 have e3:=zoi (n/2 ^ 8/2 ^ 8) 8 8
 simp only[Nat.div_div_eq_div_mul,←Nat.pow_add,Nat.reduceAdd,Nat.reducePow,Nat.reduceMul]at e1 e2 e3
 omega
theorem ym3 (n:Nat) (hn:n<4294967296):(Lib.pop8 ((n:Int)/16777216)+Lib.pop8 ((n:Int)/65536 % 256)+Lib.pop8 ((n:Int)/256 % 256)+Lib.pop8 ((n:Int) % 256)) % 256=(pcK n 32:Int):=by
 have e0:((n:Int)/16777216)=((n/16777216:Nat):Int) % 256:=by omega
 have e1:((n:Int)/65536)=((n/65536:Nat):Int):=by omega
 have e2:((n:Int)/256)=((n/256:Nat):Int):=by omega
 rw[e0,e1,e2,zkh,zkh,zkh,zkh]
 have:=ym4 n
 have:=z07 n 32
 omega
set_option maxRecDepth 100000 in
set_option maxHeartbeats 800000 in
theorem ydp (n:Nat) (w:World) (hn:n<4294967296) :
 Calls Tryz.prog 61 #[.int .u32 n] w fun e w'=>e = .returned (.int .i64 (pcK n 32:Nat))∧w.drew=w':=by
 have p0:(0:Int)≤(n:Int)/16777216:=by omega
 have p1:(n:Int)/16777216≤255:=by omega
 have q0:bits .and .u32 ((n:Int)/65536) 255=(n:Int)/65536 % 256:=by
  rw[u32_and _ _ (by omega) (by omega) (by omega) (by omega),show ((255:Int).toNat)=2^8-1 from rfl,Nat.and_two_pow_sub_one_eq_mod]
  omega
 have q1:bits .and .u32 ((n:Int)/256) 255=(n:Int)/256 % 256:=by
  rw[u32_and _ _ (by omega) (by omega) (by omega) (by omega),show ((255:Int).toNat)=2^8-1 from rfl,Nat.and_two_pow_sub_one_eq_mod]
  omega
 have q2:bits .and .u32 (n:Int) 255=(n:Int) % 256:=by
  rw[u32_and _ _ (by omega) (by omega) (by omega) (by omega),show ((255:Int).toNat)=2^8-1 from rfl,Nat.and_two_pow_sub_one_eq_mod]
  omega
 go_enter Tryz.func61,Tryz.ntmps61
 go_wp2
 go_region
 go_wp2
 go_ret
 all_goals(first|exact⟨z03 (ym3 n hn),rfl⟩|rfl)
def zhx (n:Nat) (k:Int):Bool:=decide (0≤k∧k<32)&&(n/2 ^ k.toNat % 2 == 1)
def zdb (n k:Nat):Bool:=n/2 ^ k % 2 == 1
theorem zg1 (n k:Nat):zdb n k=n.testBit k:=by
 rw[Nat.testBit_eq_decide_div_mod_eq];exact Bool.eq_iff_iff.2 (by simp[zdb])
theorem ztx (n k:Nat) (h:k<32):zhx n (k:Int)=zdb n k:=by
 unfold zhx zdb
 rw[Int.toNat_natCast,decide_eq_true (by omega),Bool.true_and]
theorem ztw (n:Nat) (k:Int) (hn:n<65536) (h:¬(0≤k∧k<16)):zhx n k=false:=by
 unfold zhx
 by_cases h1:0≤k∧k<32
 ·have:2 ^ 16≤2 ^ k.toNat:=Nat.pow_le_pow_right (by decide) (by omega)
  rw[Nat.div_eq_of_lt (by omega)]
  simp
 ·rw[decide_eq_false h1];rfl
def clr (n k:Nat):Nat:=if zdb n k then n-2 ^ k else n
theorem zyh (k:Nat) (hk:k<32):0<2 ^ k∧2 ^ k≤2147483648:=⟨Nat.pow_pos (by decide),Nat.pow_le_pow_right (show 0<2 by decide) (show k≤31 by omega)⟩
theorem z4m (n k:Nat) (hn:n<4294967296) (hk:k<32):n &&& (4294967295-2 ^ k)=clr n k:=by
 obtain⟨hp0,hp⟩:=zyh k hk
 have hz:(BitVec.ofNat 32 n &&& ~~~BitVec.ofNat 32 (2 ^ k)) &&& (BitVec.ofNat 32 n &&& BitVec.ofNat 32 (2 ^ k))=0#32:=by
  ext i hi
  simp only[BitVec.getElem_and,BitVec.getElem_not,BitVec.getElem_zero]
  cases (BitVec.ofNat 32 n)[i]<;>cases (BitVec.ofNat 32 (2 ^ k))[i]<;>rfl
 have h3:(BitVec.ofNat 32 n &&& ~~~BitVec.ofNat 32 (2 ^ k)) ||| (BitVec.ofNat 32 n &&& BitVec.ofNat 32 (2 ^ k))=BitVec.ofNat 32 n:=by
  ext i hi
  simp only[BitVec.getElem_and,BitVec.getElem_not,BitVec.getElem_or]
  cases (BitVec.ofNat 32 n)[i]<;>cases (BitVec.ofNat 32 (2 ^ k))[i]<;>rfl
 have h1:=BitVec.toNat_add_of_and_eq_zero hz
 rw[BitVec.add_eq_or_of_and_eq_zero _ _ hz,h3]at h1
 simp only[BitVec.toNat_and,BitVec.toNat_not,BitVec.toNat_ofNat]at h1
 rw[Nat.mod_eq_of_lt (show n<2 ^ 32 by omega),Nat.mod_eq_of_lt (show 2 ^ k<2 ^ 32 by omega),nat_bit,show 2 ^ 32-1-2 ^ k=4294967295-2 ^ k from by omega]at h1
 unfold clr zdb
 rcases Nat.mod_two_eq_zero_or_one (n/2 ^ k)with h|h
 ·rw[h]at h1 ⊢;rw[if_neg (by decide)];omega
 ·rw[h]at h1 ⊢;rw[if_pos (by decide)];omega
theorem z1h (n k:Nat) (hn:n<4294967296) (hk:k<32) (hb:zdb n k=false):n ||| 2 ^ k=n+2 ^ k∧n+2 ^ k<4294967296:=by
 obtain⟨hp0,hp⟩:=zyh k hk
 have h0:n/2 ^ k % 2=0:=by
  rcases Nat.mod_two_eq_zero_or_one (n/2 ^ k)with h|h
  ·exact h
  ·simp[zdb,h]at hb
 have hz:BitVec.ofNat 32 n &&& BitVec.ofNat 32 (2 ^ k)=0#32:=by
  apply BitVec.eq_of_toNat_eq
  simp only[BitVec.toNat_and,BitVec.toNat_ofNat]
  rw[Nat.mod_eq_of_lt (show n<2 ^ 32 by omega),Nat.mod_eq_of_lt (show 2 ^ k<2 ^ 32 by omega),nat_bit,h0];simp
 have h1:=BitVec.toNat_add_of_and_eq_zero hz
 rw[BitVec.add_eq_or_of_and_eq_zero _ _ hz]at h1
 simp only[BitVec.toNat_or,BitVec.toNat_ofNat]at h1
 rw[Nat.mod_eq_of_lt (show n<2 ^ 32 by omega),Nat.mod_eq_of_lt (show 2 ^ k<2 ^ 32 by omega)]at h1
 have:n ||| 2 ^ k<2 ^ 32:=Nat.or_lt_two_pow (by omega) (by omega)
 omega
theorem znr (n k:Nat):clr n k≤n:=by
 unfold clr
 split
 ·exact Nat.sub_le _ _
 ·exact Nat.le_refl _
theorem zpg (k:Nat):clr 0 k=0:=Nat.le_zero.1 (znr 0 k)
theorem ybj:pcK 0 32=0:=by decide
def z87 (m s:Nat):Bool:=decide (pcK m 32<2*pcK s 32)
def zn2 (m:Nat) (g:List Nat):Option Nat:=g.findIdx? (z87 m)
def lv (g:List Nat) (k:Nat):List Nat:=(g.set k 0).map (clr · k)
theorem zv6 (g:List Nat) (k:Nat):(lv g k).length=g.length:=by simp[lv]
def zml:Nat→Nat→List Nat→Nat × List Nat
 | 0,m,g=>(m,g)
 | n+1,m,g=>match zn2 m g with
  | none=>(m,g)
  | some k=>zml n (clr m k) (lv g k)
def nz (g:List Nat):Nat:=g.countP (fun s=>decide (s≠0))
theorem z6j (g:List Nat) (k:Nat) (h:k<g.length) (h0:g[k]≠0):nz (lv g k)<nz g:=by
 have h1:nz (lv g k)≤nz (g.set k 0):=by
  unfold nz lv
  rw[List.countP_map]
  apply List.countP_mono_left
  intro x _ hx
  simp only[Function.comp,decide_eq_true_eq]at hx ⊢
  intro he;rw[he,zpg]at hx;exact hx rfl
 have h2:nz (g.set k 0)+1=nz g:=by
  unfold nz
  rw[List.countP_set h]
  have hp:0<g.countP (fun s=>decide (s≠0)):=List.countP_pos_iff.2 ⟨g[k],List.getElem_mem h,by simpa using h0⟩
  simp only[decide_eq_true_eq]
  rw[if_pos h0,if_neg (by simp)]
  omega
 omega
theorem z5w (n m:Nat) (g:List Nat) (h:zn2 m g=none):zml n m g=(m,g):=by
 cases n with
 | zero=>rfl
 | succ n=>rw[zml,h]
theorem zh3 (m:Nat) (g:List Nat) (k:Nat) (h:zn2 m g=some k):∃hk:k<g.length,z87 m g[k]=true∧g[k]≠0:=by
 unfold zn2 at h
 rw[List.findIdx?_eq_some_iff_getElem]at h
 obtain⟨hk,h1,_⟩:=h
 refine⟨hk,h1,?_⟩
 intro h0
 rw[h0]at h1
 simp[z87,ybj]at h1
theorem z5v (n m:Nat) (g:List Nat) (k:Nat) (h:zn2 m g=some k) (hn:nz g≤n):∃n',nz (lv g k)≤n'∧zml n m g=zml n' (clr m k) (lv g k):=by
 obtain⟨hk,_,h0⟩:=zh3 m g k h
 have:=z6j g k hk h0
 cases n with
 | zero=>omega
 | succ n=>exact⟨n,by omega,by rw[zml,h]⟩
theorem yf7 (g:List Nat):nz g≤g.length:=List.countP_le_length
def z8k (m k s:Nat):Bool:=decide (s &&& (4294967295-m)≠0)||zdb s k||(decide (s≠0) && !zdb m k)
def yeo (m k s j:Nat):Bool:=zdb s j&&(!zdb m k || !zdb m j||decide (j=k))
def zba (m:Nat) (g:List Nat):Int:=if m=0∨65535<m then 1 else if g.length≠16 then 4 else if (List.range 16).any (fun k=>z8k m k (g.getD k 0))then 4 else if (zn2 m g).isSome then 4 else 0
theorem z4j (m k s:Nat) (hm:m<4294967296) (hs:s<4294967296) (hk:k<32):z8k m k s=true↔∃j,j<32∧yeo m k s j=true:=by
 have hc:∀j,(s &&& (4294967295-m)).testBit j=(s.testBit j && !m.testBit j):=by
  intro j
  rw[Nat.testBit_and,show 4294967295-m=2 ^ 32-(m+1)from by omega,Nat.testBit_two_pow_sub_succ (by omega)]
  by_cases hj:j<32
  ·simp[hj]
  ·have:s.testBit j=false:=Nat.testBit_lt_two_pow (Nat.lt_of_lt_of_le hs (show 2 ^ 32≤2 ^ j from Nat.pow_le_pow_right (by decide) (by omega)))
   simp[this]
 have h32:∀j,s.testBit j=true→j<32:=by
  intro j hj
  rcases Nat.lt_or_ge j 32 with h|h
  ·exact h
  ·rw[Nat.testBit_lt_two_pow (Nat.lt_of_lt_of_le hs (show 2 ^ 32≤2 ^ j from Nat.pow_le_pow_right (by decide) h))]at hj
   exact absurd hj (by decide)
 unfold z8k yeo
 simp only[zg1,Bool.or_eq_true,decide_eq_true_eq,Bool.and_eq_true,Bool.not_eq_true']
 constructor
 ·rintro ((h|h)|⟨h1,h2⟩)
  ·obtain⟨j,hj⟩:=Nat.exists_testBit_of_ne_zero h
   rw[hc,Bool.and_eq_true,Bool.not_eq_true']at hj
   exact⟨j,h32 j hj.1,hj.1,.inl (.inr hj.2)⟩
  ·exact⟨k,hk,h,.inr rfl⟩
  ·obtain⟨j,hj⟩:=Nat.exists_testBit_of_ne_zero h1
   exact⟨j,h32 j hj,hj,.inl (.inl h2)⟩
 ·rintro⟨j,_,h1,(h|h)|rfl⟩
  ·right
   refine⟨?_,h⟩
   rintro rfl
   simp at h1
  ·left;left
   intro h0
   have:=hc j
   rw[h0,h1,h]at this
   simp at this
  ·exact .inl (.inr h1)
def zcv (m:Nat) (g:List Nat) (b a:Int):(Nat × List Nat) × Bool × Int :=
 if zba m g≠0 then ((0,[]),false,zba m g)
 else if (zhx m b&&zhx m a)=false then ((0,[]),false,7)
 else if b=a then ((0,[]),false,1)
 else if zdb (g.getD a.toNat 0) b.toNat then ((0,[]),false,8)
 else (zml 16 m (g.set a.toNat (g.getD a.toNat 0+2 ^ b.toNat)),!zdb (zml 16 m (g.set a.toNat (g.getD a.toNat 0+2 ^ b.toNat))).1 a.toNat,0)
theorem zi4 (m:Nat) (g:List Nat) (h:zba m g=0):(0<m∧m≤65535)∧g.length=16∧(∀k,k<16→z8k m k (g.getD k 0)=false)∧zn2 m g=none:=by
 unfold zba at h
 split at h
 ·simp at h
 split at h
 ·simp at h
 split at h
 ·simp at h
 split at h
 ·simp at h
 rename_i h1 h2 h3 h4
 refine⟨by omega,by simpa using h2,?_,by simpa using h4⟩
 intro k hk
 simp only[Bool.not_eq_true,List.any_eq_false]at h3
 simpa using h3 k (by simp[hk])
theorem Conc.ghost {H:Hist} {s:St} {F F':Nat→Prop} {β β':Nat→Option Bind} {a:Act} {w:World} (C:Conc H s F β a w) {h':List (Nat × Chunk)} {n':Nat} (hn:s.n≤n') (M:MemOk H.W H.N (· < n') F' β' (zak h') w) (E:Ext (· < s.n) F β w (· < n') F' β' w)
 (hg:∀b,F' b→F b∨∃i bd,β i=some bd∧bd.has b):Conc H ⟨s.t,h',n'⟩ F' β' a w:=by
 refine⟨fun t=>RelA.mono E _ _ (C.t t),M,C.nt,C.d.mono E.f,fun b hb=>(E.f b (C.f b hb)).1,fun b hb => ?_,fun i bd hi hb => ?_,Nat.le_trans C.k hn⟩
 ·rcases hg b hb with h|⟨i,bd,h1,h2⟩
  ·exact C.g b h
  ·exact .inr (C.m.off i bd b h1 h2).2.2
 ·obtain⟨bs,h1⟩:=E.e i bd (Nat.lt_of_lt_of_le hi C.k) hb
  exact C.e i ⟨_,_,_,_,bs⟩ hi h1
theorem MemOk.here' {W:World} {N U F:Nat→Prop} {β : Nat→Option Bind} {h:Nat→Chunk} {w:World} (M:MemOk W N U F β h w) {id:Nat} {c:Chunk} (hc:h id=c) (hd:c ≠ .dead):∃bd,β id=some bd∧ChOk U w F β bd c:=M.get (fun _ _=>rfl) hc hd
theorem To.nst {k:Nat} {s:St} (id e sz c e2 sz2:Nat) (xs:List (List PV)) (hc:zak s.h id = .row e sz xs) (hcs:c<sz) (hx:∀x∈xs,x[c]? = some (.v (.slice none 0 0))) :
 ToK k s ⟨s.t,(id,.nst e sz c e2 sz2 xs (List.replicate xs.length []) none)::s.h,s.n⟩:=by
 intro H F β a w hk C
 obtain⟨bd,hb,q1,q2,q3,q4⟩:=C.m.here' hc (by simp)
 have hU:=C.m.used _ _ hb
 obtain⟨S1,S2⟩:=C.m.step (w':=w) (h':=zak ((id,.nst e sz c e2 sz2 xs (List.replicate xs.length []) none)::s.h)) (β' := β) (F':=F) (U':=(· < s.n)) (fun i=>i=id)
  (fun i hi=>rfl) (fun i hi=>by simp only[zak,if_neg (Ne.symm hi)]) rfl rfl rfl (Nat.le_refl _) (fun _ _ _=>rfl) (fun _ h=>h) (fun _ h=>h) (fun b hb=>⟨C.m.fin b hb,.inl hb⟩)
  (fun i bd' _ _ hb'=>⟨_,hb'⟩)
  (fun i bd' hi hb'=>by
   subst hi
   refine⟨hU,fun b hbb => ?_⟩
   have:=C.m.off _ _ b hb' hbb
   exact⟨this.2.1,this.1,.inr ⟨i,bd',rfl,hb',hbb⟩⟩)
  (fun i j _ _ _ hi hj _ _ _ _=>by rw[hi,hj])
  (fun E i hi _=>by
   subst hi
   refine⟨bd,hb,?_⟩
   simp only[zak,if_true]
   refine⟨⟨q1.1,by rw[q1.2];simp⟩,q2,by simp,hcs,q3,?_⟩
   rcases q4 with ⟨h1,h2,h3⟩|⟨g,cap,cur,h5,h6,h7,h8,h9,h10,hE⟩
   ·exact .inl ⟨h1,h2,h3,rfl⟩
   ·refine .inr ⟨g,cap,cur,h5,h6,h7,h8,h9,h10,by rw[q1.2];simp,?_⟩
    have cel:∀i x,xs[i]? = some x→w.cell? ⟨g,i*sz+c,none⟩=some (.slice none 0 0):=by
     intro i x hxi
     obtain⟨_,hC⟩:=hE.at i x hxi
     obtain⟨u,hu,hr⟩:=hC.at c _ (hx x (List.mem_of_getElem? hxi))
     simp only[RelP]at hr
     rw[Nat.zero_add]at hu
     rw[hu,hr.1]
    refine⟨fun i x y hxi hyi j p hp => ?_,fun i i' b o o' n n' k1 k2 l1 l2 _ _ c1 _ => ?_,fun i id' ho=>by simp at ho⟩
    ·obtain⟨_,hC⟩:=hE.at i x hxi
     obtain⟨u,hu,hr⟩:=hC.at j p hp
     refine⟨u,by simpa using hu,?_⟩
     unfold NCell
     simp only[zhk]
     split
     ·rename_i hj
      subst hj
      have:=cel i x hxi
      rw[Nat.zero_add,this]at hu
      cases hu
      exact .inl ⟨rfl,(List.eq_of_mem_replicate (List.mem_of_getElem? hyi))⟩
     ·exact hr
    ·rw[cel i xs[i] (by simp[l1])]at c1
     simp at c1)
 exact⟨F,β,C.ghost (Nat.le_refl _) S1 S2 fun b hb => .inl hb⟩
theorem To.open {k:Nat} {s:St} (id i e sz c e2 sz2:Nat) (xs:List (List PV)) (ys:List (List (List PV))) (hc:zak s.h id = .nst e sz c e2 sz2 xs ys none) (hi:i<xs.length) :
 ToK k s ⟨s.t,(id,.nst e sz c e2 sz2 xs ys (some (i,s.n)))::(s.n,.row e2 sz2 (ys.getD i []))::s.h,s.n+1⟩:=by
 intro H F β a w hk C
 obtain⟨bd,hb,q1,q2,q3,q4,q5,q6⟩:=C.m.here' hc (by simp)
 have hU:=C.m.used _ _ hb
 have hne:id≠s.n:=Nat.ne_of_lt hU
 have hb0:∀bd,β s.n≠some bd:=fun bd hb=>absurd (C.m.used _ bd hb) (Nat.lt_irrefl _)
 rcases q6 with ⟨_,rfl,_⟩|⟨g,cap,cur,h5,h6,h7,h8,h9,h10,h11,h12⟩
 ·simp at hi
 have hyi:i<ys.length:=by rw[q3];exact hi
 have hxi:xs[i]? = some xs[i]:=by simp[hi]
 have hyd:ys[i]? = some (ys.getD i []):=by simp[hyi]
 have hxl:xs[i].length=sz:=q5 _ (List.getElem_mem hi)
 obtain⟨u,hu,hn⟩:=h12.cells i _ _ hxi hyd c (xs[i][c]'(by rw[hxl];exact q4)) (by simp)
 have hn:InnOk w F bd.bs e2 sz2 (ys.getD i []) u:=by
  unfold NCell at hn
  simpa only[zhk,if_true]using hn
 -- the new piece
 obtain⟨bn,rest,e1,e2',e3,e4,e5,e6⟩:∃(bn:Bind) (rest:List Nat),bn.v=u∧ChOk (· < s.n+1) w F (zax (zax β id (some ⟨bd.v,bd.b,bd.n,bd.sz,rest⟩)) s.n (some bn)) bn (.row e2 sz2 (ys.getD i []))∧(∀b,bn.has b→b∈bd.bs∧b∉rest)∧(∀b,b∈rest→b∈bd.bs) ∧
  (∀b,b∈bd.bs→(∀o n q,u ≠ .slice (some ⟨b,o,none⟩) n q)→b∈rest)∧bn.bs = []:=by
  rcases hn with ⟨rfl,hy⟩|⟨g2,cap2,cur2,rfl,k2,k3,k4,k5,k6,k7⟩
  ·refine⟨⟨.slice none 0 0,none,0,sz2,[]⟩,bd.bs,rfl,?_,fun b hbb=>by have:=Bind.has_nil hbb;simp at this,fun b h=>h,fun b h _=>h,rfl⟩
   rw[hy]
   exact⟨⟨rfl,rfl⟩,rfl,by simp,.inl ⟨rfl,rfl,rfl⟩⟩
  ·refine⟨⟨.slice (some ⟨g2,0,none⟩) (ys.getD i []).length cap2,some g2,(ys.getD i []).length,sz2,[]⟩,bd.bs.filter (fun b => !(b == g2)),rfl,?_,fun b hbb => ?_,fun b h=>(List.mem_filter.1 h).1,fun b h hno => ?_,rfl⟩
   ·refine⟨⟨rfl,rfl⟩,rfl,fun cs hcs => ?_,.inr ⟨g2,cap2,cur2,rfl,rfl,k3,k4,k5,k6,k7⟩⟩
    obtain⟨q,hq⟩:=List.getElem?_of_mem hcs
    exact(k7.at q cs hq).1
   ·have:=Bind.has_nil hbb
    cases this
    exact⟨k2,by simp⟩
   ·refine List.mem_filter.2 ⟨h,?_⟩
    simp only[Bool.not_eq_true',beq_eq_false_iff_ne,ne_eq]
    rintro rfl
    exact hno _ _ _ rfl
 obtain⟨S1,S2⟩:=C.m.step (w':=w) (h':=zak ((id,.nst e sz c e2 sz2 xs ys (some (i,s.n)))::(s.n,.row e2 sz2 (ys.getD i []))::s.h)) (β':=zax (zax β id (some ⟨bd.v,bd.b,bd.n,bd.sz,rest⟩)) s.n (some bn)) (F':=F) (U':=(· < s.n+1)) (fun i=>i=id∨i=s.n)
  (fun j hj=>by simp only[not_or]at hj;simp only[zax,if_neg (Ne.symm hj.1),if_neg (Ne.symm hj.2)])
  (fun j hj=>by simp only[not_or]at hj;simp only[zak,if_neg (Ne.symm hj.1),if_neg (Ne.symm hj.2)])
  rfl rfl rfl (Nat.le_refl _) (fun _ _ _=>rfl) (fun _ h=>Nat.lt_succ_of_lt h) (fun _ h=>h) (fun b hb=>⟨C.m.fin b hb,.inl hb⟩)
  (fun j bd' hj hu hb'=>by
   rcases hj with rfl|rfl
   ·simp only[zax,if_neg (Ne.symm hne),if_true,Option.some.injEq]at hb'
    subst hb'
    exact⟨bd.bs,hb⟩
   ·exact absurd hu (Nat.lt_irrefl _))
  (fun j bd' hj hb'=>by
   rcases hj with rfl|rfl
   ·simp only[zax,if_neg (Ne.symm hne),if_true,Option.some.injEq]at hb'
    subst hb'
    refine⟨Nat.lt_succ_of_lt hU,fun b hbb => ?_⟩
    have hbb':bd.has b:=hbb.imp id (e4 b)
    have:=C.m.off _ _ b hb hbb'
    exact⟨this.2.1,this.1,.inr ⟨j,bd,.inl rfl,hb,hbb'⟩⟩
   ·simp only[zax,if_true,Option.some.injEq]at hb'
    subst hb'
    refine⟨Nat.lt_succ_self _,fun b hbb => ?_⟩
    have hbb':bd.has b := .inr (e3 b hbb).1
    have:=C.m.off _ _ b hb hbb'
    exact⟨this.2.1,this.1,.inr ⟨id,bd,.inl rfl,hb,hbb'⟩⟩)
  (fun j j' bj bj' b hj hj' hbj hbj' h1 h2=>by
   have key:∀b,(⟨bd.v,bd.b,bd.n,bd.sz,rest⟩:Bind).has b→bn.has b→False:=by
    intro b h1 h2
    obtain⟨m1,m2⟩:=e3 b h2
    rcases h1 with h1|h1
    ·rw[h5]at h1;cases h1;exact h11 m1
    ·exact m2 h1
   rcases hj with rfl|rfl<;>rcases hj' with rfl|rfl
   ·rfl
   ·simp only[zax,if_neg (Ne.symm hne),if_true,Option.some.injEq]at hbj hbj'
    subst hbj hbj'
    exact(key b h1 h2).elim
   ·simp only[zax,if_neg (Ne.symm hne),if_true,Option.some.injEq]at hbj hbj'
    subst hbj hbj'
    exact(key b h2 h1).elim
   ·rfl)
  (fun E j hj _=>by
   rcases hj with rfl|rfl
   ·refine⟨⟨bd.v,bd.b,bd.n,bd.sz,rest⟩,by simp[zax,Ne.symm hne],?_⟩
    simp only[zak,if_true]
    refine⟨⟨q1.1,fun b hbb=>q1.2 b (e4 b hbb)⟩,q2,q3,q4,q5,.inr ⟨g,cap,cur,h5,h6,h7,h8,h9,h10,fun h=>h11 (e4 g h),?_⟩⟩
    refine⟨fun i' x y hx hy j' p hp => ?_,fun i1 i2 b o1 o2 n1 n2 k1 k2 l1 l2 m1 m2 c1 c2=>h12.inj i1 i2 b o1 o2 n1 n2 k1 k2 l1 l2 rfl rfl c1 c2,fun i' id' ho => ?_⟩
    ·obtain⟨u',hu',hn'⟩:=h12.cells i' x y hx hy j' p hp
     refine⟨u',hu',?_⟩
     unfold NCell at hn' ⊢
     split
     ·rename_i hj'
      subst hj'
      simp only[if_true,zhk]at hn' ⊢
      by_cases hii:i=i'
      ·subst hii
       rw[hu']at hu
       cases hu
       rw[if_pos rfl]
       refine⟨Nat.lt_succ_self _,hn'.one,fun bd' hbd' => ?_⟩
       simp only[zax,if_true,Option.some.injEq]at hbd'
       subst hbd'
       exact e1.symm
      ·rw[if_neg hii]
       rcases hn' with h|⟨g3,cap3,cur3,rfl,k2,k3⟩
       ·exact .inl h
       ·refine .inr ⟨g3,cap3,cur3,rfl,e5 g3 k2 fun o n q hq=>hii ?_,k3⟩
        subst hq
        exact h12.inj i i' g3 _ _ _ _ _ _ hi (List.getElem?_eq_some_iff.1 hx).1 rfl rfl hu hu'
     ·rename_i hj'
      rw[if_neg hj']at hn'
      exact hn'
    ·simp only[Option.some.injEq,Prod.mk.injEq]at ho
     obtain⟨rfl,rfl⟩:=ho
     exact⟨Nat.lt_succ_self _,hi⟩
   ·refine⟨bn,by simp[zax],?_⟩
    simp only[zak,if_neg hne,if_true]
    exact e2')
 exact⟨F,_,C.ghost (Nat.le_succ _) S1 S2 fun b hb => .inl hb⟩
theorem To.close {k:Nat} {s:St} (id i j e sz c e2 sz2:Nat) (xs:List (List PV)) (ys:List (List (List PV))) (zs:List (List PV)) (hc:zak s.h id = .nst e sz c e2 sz2 xs ys (some (i,j))) (hj:zak s.h j = .row e2 sz2 zs) :
 ToK k s ⟨s.t,(id,.nst e sz c e2 sz2 xs (ys.set i zs) none)::(j,.dead)::s.h,s.n⟩:=by
 intro H F β a w hk C
 obtain⟨bd,hb,q1,q2,q3,q4,q5,q6⟩:=C.m.here' hc (by simp)
 obtain⟨bj,hbj,z1,z2,z3,z4⟩:=C.m.here' hj (by simp)
 have hU:=C.m.used _ _ hb
 have hUj:=C.m.used _ _ hbj
 have hne:id≠j:=by rintro rfl;rw[hc]at hj;simp at hj
 rcases q6 with ⟨_,_,_,h⟩|⟨g,cap,cur,h5,h6,h7,h8,h9,h10,h11,h12⟩
 ·simp at h
 have hi:=(h12.opu _ _ rfl).2
 have hoth:∀i',zhk (some (i,j)) i'=none→¬i=i':=fun i' h hh=>by simp[zhk,hh]at h
 have jb:∀b,bj.b=some b→b∉bd.bs∧b≠g:=fun b hbb=>⟨fun h=>hne (C.m.dis id j bd bj b hb hbj (.inr h) (.inl hbb)),fun h=>hne (C.m.dis id j bd bj b hb hbj (.inl (h▸h5)) (.inl hbb))⟩
 let bd':Bind:=⟨bd.v,bd.b,bd.n,bd.sz,bj.b.toList++bd.bs⟩
 have hin:∀b,b∈bj.b.toList→bj.b=some b:=fun q hq=>by
  cases hb:bj.b with
  | none=>rw[hb]at hq;simp at hq
  | some q'=>rw[hb]at hq;simp at hq;rw[hq]
 have hhas:∀b,bd'.has b→bd.has b∨bj.has b:=by
  intro b hb
  rcases hb with hb|hb
  ·exact .inl (.inl hb)
  ·rcases List.mem_append.1 hb with hb|hb
   ·exact .inr (.inl (hin b hb))
   ·exact .inl (.inr hb)
 obtain⟨S1,S2⟩:=C.m.step (w':=w) (h':=zak ((id,.nst e sz c e2 sz2 xs (ys.set i zs) none)::(j,.dead)::s.h)) (β':=zax (zax β id (some bd')) j none) (F':=F) (U':=(· < s.n)) (fun i=>i=id∨i=j)
  (fun j' hj=>by simp only[not_or]at hj;simp only[zax,if_neg (Ne.symm hj.1),if_neg (Ne.symm hj.2)])
  (fun j' hj=>by simp only[not_or]at hj;simp only[zak,if_neg (Ne.symm hj.1),if_neg (Ne.symm hj.2)])
  rfl rfl rfl (Nat.le_refl _) (fun _ _ _=>rfl) (fun _ h=>h) (fun _ h=>h) (fun b hb=>⟨C.m.fin b hb,.inl hb⟩)
  (fun j' bd0 hj hu hb'=>by
   rcases hj with rfl|rfl
   ·simp only[zax,if_neg (Ne.symm hne),if_true,Option.some.injEq]at hb'
    subst hb'
    exact⟨bd.bs,hb⟩
   ·simp[zax]at hb')
  (fun j' bd0 hj hb'=>by
   rcases hj with rfl|rfl
   ·simp only[zax,if_neg (Ne.symm hne),if_true,Option.some.injEq]at hb'
    subst hb'
    refine⟨hU,fun b hbb => ?_⟩
    rcases hhas b hbb with h|h
    ·have:=C.m.off _ _ b hb h
     exact⟨this.2.1,this.1,.inr ⟨j',bd,.inl rfl,hb,h⟩⟩
    ·have:=C.m.off _ _ b hbj h
     exact⟨this.2.1,this.1,.inr ⟨j,bj,.inr rfl,hbj,h⟩⟩
   ·simp[zax]at hb')
  (fun j1 j2 b1 b2 b h1 h2 hb1 hb2 _ _=>by
   have only:∀i bi,(i=id∨i=j)→zax (zax β id (some bd')) j none i=some bi→i=id:=by
    intro i bi hi hb
    rcases hi with rfl|rfl
    ·rfl
    ·simp[zax]at hb
   rw[only j1 b1 h1 hb1,only j2 b2 h2 hb2])
  (fun E j' hj' hd=>by
   rcases hj' with rfl|rfl
   ·refine⟨bd',by simp[zax,Ne.symm hne],?_⟩
    simp only[zak,if_true]
    have cin:InnOk w F bd'.bs e2 sz2 zs bj.v:=by
     rcases z4 with ⟨_,m2,m3⟩|⟨g2,cap2,cur2,m1,m2,m3,m4,m5,m6,m7⟩
     ·exact .inl ⟨m3,m2⟩
     ·exact .inr ⟨g2,cap2,cur2,m2,by simp[bd',m1],m3,m4,m5,m6,m7⟩
    refine⟨⟨q1.1,fun b hbb => ?_⟩,q2,by simp[q3],q4,q5,.inr ⟨g,cap,cur,h5,h6,h7,h8,h9,h10,fun h => ?_,?_⟩⟩
    ·rcases List.mem_append.1 hbb with hbb|hbb
     ·have hbb:=hin b hbb
      rcases z4 with ⟨m1,_⟩|⟨g2,cap2,cur2,m1,m2,m3,_⟩
      ·rw[hbb]at m1;simp at m1
      ·rw[hbb]at m1;cases m1;exact⟨cur2,m3⟩
     ·exact q1.2 b hbb
    ·rcases List.mem_append.1 h with h|h
     ·exact(jb g (hin g h)).2 rfl
     ·exact h11 h
    ·have cellc:∀i',i'<xs.length→∃u,w.cell? ⟨g,i'*sz+c,none⟩=some u∧((i'=i∧u=bj.v)∨(¬i=i'∧∃y,ys[i']? = some y∧InnOk w F bd.bs e2 sz2 y u)):=by
      intro i' hi'
      have hxl:xs[i'].length=sz:=q5 _ (List.getElem_mem hi')
      have hyi:i'<ys.length:=by rw[q3];exact hi'
      obtain⟨u,hu,hn⟩:=h12.cells i' _ _ (List.getElem?_eq_getElem hi') (List.getElem?_eq_getElem hyi) c (xs[i'][c]'(by rw[hxl];exact q4)) (by simp)
      refine⟨u,hu,?_⟩
      unfold NCell at hn
      simp only[if_true,zhk]at hn
      by_cases hii:i=i'
      ·rw[if_pos hii]at hn
       exact .inl ⟨hii.symm,hn.2.2 bj hbj⟩
      ·rw[if_neg hii]at hn
       exact .inr ⟨hii,_,List.getElem?_eq_getElem hyi,hn⟩
     have hold:∀b o n q,bj.v = .slice (some ⟨b,o,none⟩) n q→bj.b=some b:=by
      intro b o n q h
      rcases z4 with ⟨_,_,m3⟩|⟨g2,cap2,cur2,m1,m2,_⟩
      ·rw[m3]at h;simp at h
      ·rw[m2]at h
       simp only[Value.slice.injEq,Option.some.injEq,Addr.mk.injEq]at h
       rw[m1,h.1.1]
     refine⟨fun i' x y hx hy j' p hp => ?_,fun i1 i2 b o1 o2 n1 n2 k1 k2 l1 l2 _ _ c1 c2 => ?_,fun i' id' ho=>by simp at ho⟩
     ·have hi':i'<xs.length:=(List.getElem?_eq_some_iff.1 hx).1
      by_cases hjc:j'=c
      ·subst hjc
       obtain⟨u,hu,hn⟩:=cellc i' hi'
       refine⟨u,hu,?_⟩
       unfold NCell
       simp only[if_true,zhk]
       rcases hn with ⟨rfl,rfl⟩|⟨hii,y',hy',hn⟩
       ·rw[List.getElem?_set_self (by rw[q3];exact hi')]at hy
        cases hy
        exact cin
       ·rw[List.getElem?_set_ne hii,hy']at hy
        cases hy
        exact hn.wide (fun b hb=>⟨hb,rfl⟩) fun q hq=>⟨List.mem_append.2 (.inr hq),rfl⟩
      ·have hyi:i'<ys.length:=by rw[q3];exact hi'
       obtain⟨u,hu,hn⟩:=h12.cells i' x _ hx (List.getElem?_eq_getElem hyi) j' p hp
       refine⟨u,hu,?_⟩
       unfold NCell at hn ⊢
       rw[if_neg hjc]at hn ⊢
       exact hn
     ·obtain⟨u1,hu1,hn1⟩:=cellc i1 l1
      obtain⟨u2,hu2,hn2⟩:=cellc i2 l2
      rw[c1]at hu1;cases hu1
      rw[c2]at hu2;cases hu2
      rcases hn1 with ⟨rfl,e1⟩|⟨m1,y1,_,e1⟩<;>rcases hn2 with ⟨rfl,e2'⟩|⟨m2,y2,_,e2'⟩
      ·rfl
      ·exact((jb b (hold b _ _ _ e1.symm)).1 e2'.blk).elim
      ·exact((jb b (hold b _ _ _ e2'.symm)).1 e1.blk).elim
      ·have o1':zhk (some (i,j)) i1=none:=by simp[zhk,m1]
       have o2':zhk (some (i,j)) i2=none:=by simp[zhk,m2]
       exact h12.inj i1 i2 b o1 o2 n1 n2 k1 k2 l1 l2 o1' o2' c1 c2
   ·exact(hd (by simp[zak,hne])).elim)
 exact⟨F,_,C.ghost (Nat.le_refl _) S1 S2 fun b hb => .inl hb⟩
def unN (c sz2:Nat) (xs:List (List PV)) (ys:List (List (List PV))):List (List PV):=List.zipWith (fun x y=>x.set c (.sl sz2 y)) xs ys
theorem To.frzN {k:Nat} {s:St} (id e sz c e2 sz2:Nat) (xs:List (List PV)) (ys:List (List (List PV))) (hc:zak s.h id = .nst e sz c e2 sz2 xs ys none) :
 ToK k s ⟨s.t,(id,.row e sz (unN c sz2 xs ys))::s.h,s.n⟩:=by
 intro H F β a w hk C
 obtain⟨bd,hb,q1,q2,q3,q4,q5,q6⟩:=C.m.here' hc (by simp)
 have hU:=C.m.used _ _ hb
 let bd':Bind:=⟨bd.v,bd.b,bd.n,bd.sz,[]⟩
 have hF:∀b,b∈bd.bs→bd.b≠some b:=by
  intro b hbb h
  rcases q6 with ⟨h1,_⟩|⟨g,cap,cur,h5,_,_,_,_,_,h11,_⟩
  ·rw[h]at h1;simp at h1
  ·rw[h]at h5;cases h5;exact h11 hbb
 obtain⟨S1,S2⟩:=C.m.step (w':=w) (h':=zak ((id,.row e sz (unN c sz2 xs ys))::s.h)) (β':=zax β id (some bd')) (F':=fun b=>F b∨b∈bd.bs) (U':=(· < s.n)) (fun i=>i=id)
  (fun i hi=>by simp only[zax,if_neg (Ne.symm hi)]) (fun i hi=>by simp only[zak,if_neg (Ne.symm hi)]) rfl rfl rfl (Nat.le_refl _) (fun _ _ _=>rfl) (fun _ h=>h) (fun _ h => .inl h)
  (fun b hbb=>by
   rcases hbb with hbb|hbb
   ·exact⟨C.m.fin b hbb,.inl hbb⟩
   ·exact⟨(C.m.off _ _ b hb (.inr hbb)).2.1,.inr (.inr ⟨id,bd,rfl,hb,.inr hbb⟩)⟩)
  (fun i bd0 hi _ hb'=>by
   subst hi
   simp only[zax,if_true,Option.some.injEq]at hb'
   subst hb'
   exact⟨bd.bs,hb⟩)
  (fun i bd0 hi hb'=>by
   subst hi
   simp only[zax,if_true,Option.some.injEq]at hb'
   subst hb'
   refine⟨hU,fun b hbb => ?_⟩
   have hbb:=Bind.has_nil hbb
   have:=C.m.off _ _ b hb (.inl hbb)
   exact⟨this.2.1,fun h=>h.elim this.1 fun h=>hF b h hbb,.inr ⟨i,bd,rfl,hb,.inl hbb⟩⟩)
  (fun i j _ _ _ hi hj _ _ _ _=>by rw[hi,hj])
  (fun E i hi _=>by
   subst hi
   refine⟨bd',by simp[zax],?_⟩
   simp only[zak,if_true]
   have hl:(unN c sz2 xs ys).length=xs.length:=by simp[unN,q3]
   refine⟨⟨q1.1,rfl⟩,by rw[hl];exact q2,fun cs hcs => ?_,?_⟩
   ·obtain⟨q,hq⟩:=List.getElem?_of_mem hcs
    unfold unN at hq
    rw[List.getElem?_zipWith]at hq
    cases h1:xs[q]? with
    | none=>rw[h1]at hq;simp at hq
    | some x=>cases h2:ys[q]? with
     | none=>rw[h1,h2]at hq;simp at hq
     | some y =>
      rw[h1,h2]at hq
      simp only[Option.some.injEq]at hq
      subst hq
      rw[List.length_set];exact q5 x (List.mem_of_getElem? h1)
   ·rcases q6 with ⟨h1,h2,h3,_⟩|⟨g,cap,cur,h5,h6,h7,h8,h9,h10,h11,h12⟩
    ·refine .inl ⟨h1,?_,h3⟩
     exact List.eq_nil_of_length_eq_zero (by rw[hl,h2];rfl)
    ·refine .inr ⟨g,cap,cur,h5,by rw[hl];exact h6,h7,by rw[hl];exact h8,h9,h10,RelE.of fun q cs hq => ?_⟩
     unfold unN at hq
     rw[List.getElem?_zipWith]at hq
     cases h1:xs[q]? with
     | none=>rw[h1]at hq;simp at hq
     | some x=>cases h2:ys[q]? with
      | none=>rw[h1,h2]at hq;simp at hq
      | some y =>
       rw[h1,h2]at hq
       simp only[Option.some.injEq]at hq
       subst hq
       have hxl:=q5 x (List.mem_of_getElem? h1)
       refine⟨by rw[List.length_set];exact hxl,RelC.of fun j p hp => ?_⟩
       have hjl:j<x.length:=by have:=(List.getElem?_eq_some_iff.1 hp).1;simpa using this
       obtain⟨u,hu,hn⟩:=h12.cells q x y h1 h2 j x[j] (List.getElem?_eq_getElem hjl)
       refine⟨u,by simpa using hu,?_⟩
       unfold NCell at hn
       by_cases hj:j=c
       ·subst hj
        rw[List.getElem?_set_self hjl]at hp
        cases hp
        simp only[if_true,zhk]at hn
        simp only[RelP]
        rcases hn with ⟨rfl,rfl⟩|⟨g2,cap2,cur2,rfl,k2,k3,k4,k5,k6,k7⟩
        ·exact⟨none,0,rfl,Nat.le_refl _,Nat.zero_le _,.inl rfl⟩
        ·exact⟨_,cap2,rfl,k4,k5,.inr ⟨g2,0,rfl,.inr k2,RelE.mono E.f rfl _ _ _ k7⟩⟩
       ·rw[List.getElem?_set_ne (fun h=>hj h.symm),List.getElem?_eq_getElem hjl]at hp
        cases hp
        rw[if_neg hj]at hn
        exact RelP.mono E.f _ _ hn)
 exact⟨_,_,C.ghost (Nat.le_refl _) S1 S2 fun b hbb=>hbb.imp (fun h=>h) fun h=>⟨id,bd,hb,.inr h⟩⟩
theorem MemOk.wkc {W:World} {N U F:Nat→Prop} {β : Nat→Option Bind} {h h':Nat→Chunk} {w:World} (M:MemOk W N U F β h w) (hw:∀id,WkC (h id) (h' id)):MemOk W N U F β h' w:=by
 refine⟨M.size,M.os,M.tape,M.output,M.frame,M.fin,M.used,fun id hd => ?_,M.dis,M.off⟩
 have hn:h id ≠ .dead:=by
  intro e
  have:=hw id
  rw[e]at this
  cases hc:h' id<;>rw[hc]at this<;>first|exact hd hc|exact this
 obtain⟨bd,hb,hk⟩:=M.ch id hn
 exact⟨bd,hb,(hw id).run hk⟩
theorem Spec.keep {P:Program} {f:FuncId} {args:List AV} {r:AV} {e sz:Nat} {xs:List (List PV)} (S:Spec P f args [] r [.row e sz xs]):Spec P f args [] r [.keep e sz xs]:=by
 refine⟨S.1,S.2.1,fun w F β vs M hv=>(S.2.2 w F β vs M hv).mono ?_⟩
 rintro en w' ⟨v,F',β',h1,h2,h3⟩
 refine⟨v,F',β',h1,h2.wkc fun id => ?_,h3⟩
 cases id with
 | zero=>exact⟨rfl,rfl,rfl⟩
 | succ n=>exact trivial
def gaF:Nat→ByteArray→List Int→List Int × Int
 | 0,s,out=>if s=⟨#[]⟩then (out,0)else ([],4)
 | n+1,s,out=>if (zgy s).2.2=0 then gaF n (zgy s).2.1 (out ++ [z42 (zgy s).1])else ([],(zgy s).2.2)
def gaR (s:ByteArray):List Int × Int :=
 if (zgy s).2.2=0 then (if (zgy s).1≤1000 then gaF (zgy s).1 (zgy s).2.1 []else ([],2))else ([],(zgy s).2.2)
theorem z3e (s:ByteArray):(zgy s).1<18446744073709551616∧(zgy s).2.1.size≤s.size∧0≤(zgy s).2.2∧(zgy s).2.2≤4:=by
 obtain⟨e,r,hE,h1,h2⟩:=zw1 s
 rw[hE.res]
 have hle:=hE.le
 by_cases he:e<s.size
 ·rw[h1 he]
  split
  ·refine⟨Nat.mod_lt _ (by decide),?_,by simp,by simp⟩
   simp only[ByteArray.size_extract];omega
  ·exact⟨by decide,Nat.zero_le _,by simp,by simp⟩
 ·rw[h2 (by omega)]
  refine⟨by simp,Nat.zero_le _,?_,?_⟩<;>(simp only;split<;>omega)
theorem zp9 (s:ByteArray):(s=⟨#[]⟩)↔s.toList = []:=by
 rw[ByteArray.toList_eq]
 constructor
 ·rintro rfl;rfl
 ·intro h;obtain⟨⟨l⟩⟩:=s;simp at h;subst h;rfl
set_option maxHeartbeats 2000000 in
set_option maxRecDepth 20000 in
theorem zy3 (s:ByteArray) (w:World) (hs:s.size≤140737488351232) :
 Calls Tryz.prog 36 #[.string s] w fun e w'=>(∃v,e = .returned (.tuple #[v,.int .i64 (gaR s).2])∧∃n,w'.ownsRow w.heap.size 3 1 v n ((gaR s).1.flatMap z7r))∧Below w.heap.size w w':=by
 have P:=PLift.up (z3c s w hs)
 have hgl:=z3e s
 obtain⟨r,hr⟩:∃r,r=gaR s:=⟨_,rfl⟩
 rw[←hr]
 unfold gaR at hr
 obtain⟨R,hR⟩:∃R,R=zgy s:=⟨_,rfl⟩
 rw[←hR]at P hgl hr
 obtain⟨n,s1,e1⟩:=R
 simp only at P hgl hr
 clear hR
 by_cases h0:e1=0
 ·subst h0
  rw[if_pos rfl]at hr
  by_cases hn:n≤1000
  ·rw[if_pos hn]at hr
   have HR:=PLift.up hr
   clear hr
   go_enter Tryz.func36,Tryz.ntmps36
   go_wp2_with fail
   refine P.down.mono ?_
   rintro e w1 ⟨rfl,hb1⟩
   have B1:=PLift.up hb1
   clear hb1 P
   go_wp2_with fail
   go_loopw [0,6,24] (fun sv v iv wr=>∃(k:Nat) (t:ByteArray) (out:List Int),k≤n∧iv = .int .u64 k∧sv = .string t∧t.size≤140737488351232∧Hid (gaF (n-k) t out=gaF n s1 []∧wr.ownsRow w.heap.size 3 1 v k (out.flatMap z7r)∧Below w.heap.size w wr)) (fun _ _ iv _=>n-(intOf iv).toNat)
   case atStart=>exact⟨0,s1,[],by omega,rfl,rfl,by omega,rfl,⟨by simp,.inl ⟨rfl,rfl⟩⟩,B1.down⟩
   case round =>
    obtain⟨k,t,out,hk,rfl,rfl,ht,hI⟩:=hrel
    have hB:=hI.out.2.2.size
    by_cases hlt:k<n
    ·have Q:=PLift.up (z3c t wr ht)
     have hql:=z3e t
     have hst:gaF (n-k) t out=if (zgy t).2.2=0 then gaF (n-(k+1)) (zgy t).2.1 (out ++ [z42 (zgy t).1])else ([],(zgy t).2.2):=by
      rw[show n-k=(n-(k+1))+1 from by omega];rfl
     obtain⟨R2,hR2⟩:∃R,R=zgy t:=⟨_,rfl⟩
     rw[←hR2]at Q hql hst
     obtain⟨x,t',e2⟩:=R2
     simp only at Q hql hst
     clear hR2
     have HI:=PLift.up hI.out
     clear hI
     by_cases h2:e2=0
     ·subst h2
      rw[if_pos rfl]at hst
      have HST:=PLift.up hst
      clear hst
      go_wp2_with fail
      refine Q.down.mono ?_
      rintro e w2 ⟨rfl,hb2⟩
      have HO2:=PLift.up (z1e HI.down.2.1 hb2)
      have B2:=PLift.up (HI.down.2.2.trans (hb2.mono hB))
      have hB2:=B2.down.size
      clear hb2 Q
      go_wp2_with fail
      refine(zxp x hql.1 _).mono ?_
      rintro e w2 ⟨rfl,rfl⟩
      generalize hu:z42 x=u
      have HU:=PLift.up hu
      clear hu
      go_wp2_with (at_builtin;refine z98 _ rfl _ _ _ rfl w.heap.size _ _ _ ydb _ k (out.flatMap z7r) rfl (HO2.down.alloc _) (some ⟨w2.heap.size,0,none⟩) 1 1 [.int .i64 u] rfl ?_ ?_ ?_ ?_ ?_ ?_ ?_ ?_)
      ·rfl
      ·simp
      ·intro ad had j y hy
       obtain rfl:=Option.some.inj had
       match j,hy with
       | 0,hy=>simp at hy;subst hy;simp[Addr.add_lit,go_sem]
       | j+1,hy=>simp at hy
      ·simp[Value.oneCell']
      ·simp only[maxLen];omega
      ·omega
      ·simp;omega
      ·intro v' w3 hown hg _
       have hbb:Below w.heap.size w w3:=(B2.down.alloc (by omega) _).grown hg (by simp;omega) (fun q hq=>(HO2.down.lt q hq).1)
       obtain⟨a',c',rfl⟩:=z1d hown
       have HO:=PLift.up hown
       have HBB:=PLift.up hbb
       clear hown hbb hg
       go_wp2_with fail
       go_roundw
       case rel =>
        refine⟨k+1,t',out ++ [z42 x],by omega,by go_num,rfl,by omega,?_,?_,HBB.down⟩
        ·rw[←HST.down];exact HI.down.1
        ·rw[List.flatMap_append,HU.down];exact HO.down
       case measure=>simp[intOf];omega
     ·rw[if_neg h2]at hst
      have hr2:=(hst.symm.trans HI.down.1).trans HR.down.symm
      have z1:(e2 != 0)=true:=by simpa using h2
      have z2:(e2 == 0)=false:=by simpa using h2
      subst hr2
      have B1W:=PLift.up HI.down.2.2
      clear hst HR HI h2
      go_wp2_with fail
      refine Q.down.mono ?_
      rintro e w2 ⟨rfl,hb2⟩
      have HI2:=PLift.up (B1W.down.trans (hb2.mono hB))
      clear hb2 Q
      go_wp2_with fail
      go_returns
      exact⟨⟨_,rfl,0,⟨by simp,.inl ⟨rfl,rfl⟩⟩⟩,HI2.down⟩
    ·obtain rfl:k=n:=by omega
     have hz:=hI.out.1
     rw[Nat.sub_self]at hz
     have hz2:gaF 0 t out=if t=⟨#[]⟩then (out,0)else ([],4):=rfl
     rw[hz2]at hz
     have HI:=PLift.up hI.out
     clear hI hz2
     by_cases ht0:t=⟨#[]⟩
     ·rw[if_pos ht0]at hz
      have hr2:=hz.trans HR.down.symm
      subst hr2 ht0
      clear HR
      go_wp2_with fail
      go_returns
      exact⟨⟨_,rfl,_,HI.down.2.1⟩,HI.down.2.2⟩
     ·rw[if_neg ht0]at hz
      have hr2:=hz.trans HR.down.symm
      subst hr2
      clear HR
      have hte:t.toList.isEmpty=false:=by
       cases h:t.toList with
       | nil=>exact absurd ((zp9 t).2 h) ht0
       | cons x l=>rfl
      have hte2:¬t.toList = []:=fun h=>ht0 ((zp9 t).2 h)
      clear ht0
      go_wp2_with fail
      go_returns
      exact⟨⟨_,rfl,0,⟨by simp,.inl ⟨rfl,rfl⟩⟩⟩,HI.down.2.2⟩
  ·rw[if_neg hn]at hr
   subst hr
   go_enter Tryz.func36,Tryz.ntmps36
   go_wp2_with fail
   refine P.down.mono ?_
   rintro e w1 ⟨rfl,hb1⟩
   have B1:=PLift.up hb1
   clear hb1 P
   go_wp2_with fail
   go_returns
   exact⟨⟨_,rfl,0,⟨by simp,.inl ⟨rfl,rfl⟩⟩⟩,B1.down⟩
 ·rw[if_neg h0]at hr
  have z1:(e1 != 0)=true:=by simpa using h0
  have z2:(e1 == 0)=false:=by simpa using h0
  subst hr
  clear h0
  go_enter Tryz.func36,Tryz.ntmps36
  go_wp2_with fail
  refine P.down.mono ?_
  rintro e w1 ⟨rfl,hb1⟩
  have B1:=PLift.up hb1
  clear hb1 P
  go_wp2_with fail
  go_returns
  exact⟨⟨_,rfl,0,⟨by simp,.inl ⟨rfl,rfl⟩⟩⟩,B1.down⟩
end Go.Proofs.YtmjbgbmegbkmhaaGreat
namespace Go.Proofs.YtmjbgbmegbkmhaaGreat
set_option linter.all false
def zkg (a:Int) (m:Nat):List Int:=(List.range m).map fun (j:Nat)=>a+(j:Int)
theorem yfp (a:Int):zkg a 0 = []:=rfl
theorem zqr (a:Int) (m:Nat):zkg a (m+1)=a::zkg (a+1) m:=by
 unfold zkg
 rw[List.range_succ_eq_map,List.map_cons,List.map_map]
 simp only[Int.natCast_zero,Int.add_zero,List.cons.injEq,true_and]
 apply List.map_congr_left
 intro j _
 simp only[Function.comp]
 omega
theorem z0z (a:Int) (m:Nat):zkg a (m+1)=zkg a m ++ [a+(m:Int)]:=by
 unfold zkg
 rw[List.range_succ,List.map_append];rfl
theorem zob {a k:Int} {m:Nat} (h:k∈zkg a m):a≤k∧k<a+m:=by
 unfold zkg at h
 obtain⟨j,hj,rfl⟩:=List.mem_map.1 h
 have:=List.mem_range.1 hj
 omega
theorem zgg:∀(m:Nat) (a:Int) (s:List Int) (p:Int→Bool),s.Pairwise (· < ·)→(∀x∈s,a≤x∧x<a+m)→(∀k,a≤k→k<a+m→(p k=true↔k∈s))→(zkg a m).filter p=s
 | 0,a,s,p,_,hb,_=>by
  cases s with
  | nil=>rfl
  | cons x r=>have:=hb x (by simp);omega
 | m+1,a,s,p,hs,hb,hp=>by
  rw[zqr,List.filter_cons]
  cases s with
  | nil =>
   have h0:p a=false:=by
    cases h:p a with
    | false=>rfl
    | true=>have:=(hp a (by omega) (by omega)).1 h;simp at this
   rw[h0]
   exact zgg m (a+1) [] p .nil (by simp) fun k h1 h2=>by have:=hp k (by omega) (by omega);simpa using this
  | cons x r =>
   obtain⟨hx,hr⟩:=List.pairwise_cons.1 hs
   have hbx:=hb x (by simp)
   by_cases hxa:x=a
   ·subst hxa
    rw[if_pos ((hp x (by omega) (by omega)).2 (by simp))]
    congr 1
    refine zgg m (x+1) r p hr (fun y hy => ?_) fun k h1 h2 => ?_
    ·have:=hx y hy;have:=hb y (by simp[hy]);omega
    ·have:=hp k (by omega) (by omega)
     rw[this]
     simp only[List.mem_cons]
     constructor
     ·rintro (h|h)
      ·omega
      ·exact h
     ·exact .inr
   ·have h0:p a=false:=by
     cases h:p a with
     | false=>rfl
     | true =>
      have:=(hp a (by omega) (by omega)).1 h
      rcases List.mem_cons.1 this with h|h
      ·exact(hxa h.symm).elim
      ·have:=hx a h;omega
    rw[h0]
    refine zgg m (a+1) (x::r) p hs (fun y hy => ?_) fun k h1 h2=>hp k (by omega) (by omega)
    have h3:=hb y hy
    rcases List.mem_cons.1 hy with rfl|hy
    ·omega
    ·have:=hx y hy;omega
def zca (g:Int):List Int→Int × List Int
 | []=>(g,[])
 | h::r=>if h=g then zca (g+1) r else (g,h::r)
theorem zvb:∀(s:List Int) (g:Int),s.Pairwise (· < ·)→(∀x∈s,g≤x) →
 g≤(zca g s).1∧(zca g s).2.Pairwise (· < ·)∧(∀x∈(zca g s).2,(zca g s).1<x∧x∈s)∧(∀k,g≤k→k<(zca g s).1→k∈s)∧(∀k∈s,(zca g s).1≤k→k∈(zca g s).2)∧(zca g s).1∉s
 | [],g,_,_=>by simp[zca]
 | h::r,g,hs,hb=>by
  obtain⟨h1,h2⟩:=List.pairwise_cons.1 hs
  unfold zca
  by_cases hg:h=g
  ·subst hg
   rw[if_pos rfl]
   obtain⟨a1,a2,a3,a4,a5,a6⟩:=zvb r (h+1) h2 (fun x hx=>by have:=h1 x hx;omega)
   refine⟨by omega,a2,fun x hx=>⟨(a3 x hx).1,by simp[(a3 x hx).2]⟩,fun k k1 k2 => ?_,fun k hk k1 => ?_,?_⟩
   ·by_cases hk:k=h
    ·simp[hk]
    ·simp[a4 k (by omega) k2]
   ·rcases List.mem_cons.1 hk with rfl|hk
    ·omega
    ·exact a5 k hk k1
   ·simp only[List.mem_cons,not_or]
    exact⟨by omega,a6⟩
  ·rw[if_neg hg]
   have hgh:g<h:=by have:=hb h (by simp);omega
   refine⟨by simp,hs,fun x hx=>⟨?_,hx⟩,fun k k1 k2=>by simp at k2;omega,fun k hk _=>hk,?_⟩
   ·rcases List.mem_cons.1 hx with rfl|hx
    ·exact hgh
    ·have:=h1 x hx;simp;omega
   ·simp only[List.mem_cons,not_or]
    exact⟨by omega,fun hm=>by have:=h1 g hm;omega⟩
def zj7 (n:Int) (s:List Int):List Int:=s.take (s.countP (· < n))++n::s.drop (s.countP (· < n))
theorem zw6:∀(s:List Int) (n:Int),s.Pairwise (· < ·)→(∀x∈s.take (s.countP (· < n)),x<n)∧(∀x∈s.drop (s.countP (· < n)),n≤x)
 | [],_,_=>by simp
 | h::r,n,hs=>by
  obtain⟨h1,h2⟩:=List.pairwise_cons.1 hs
  obtain⟨i1,i2⟩:=zw6 r n h2
  by_cases hn:h<n
  ·rw[List.countP_cons_of_pos (by simpa using hn)]
   refine⟨fun x hx => ?_,fun x hx=>i2 x (by simpa using hx)⟩
   rw[List.take_succ_cons]at hx
   rcases List.mem_cons.1 hx with rfl|hx
   ·exact hn
   ·exact i1 x hx
  ·have h0:r.countP (· < n)=0:=by
    rw[List.countP_eq_zero]
    intro x hx
    have:=h1 x hx
    simp;omega
   rw[List.countP_cons_of_neg (by simpa using hn),h0]
   refine⟨by simp,fun x hx => ?_⟩
   rw[List.drop_zero]at hx
   rcases List.mem_cons.1 hx with rfl|hx
   ·omega
   ·have:=h1 x hx;omega
theorem zqz (n:Int) (s:List Int) (x:Int):x∈zj7 n s↔x=n∨x∈s:=by
 unfold zj7
 rw[List.mem_append,List.mem_cons]
 have:x∈s↔x∈s.take (s.countP (· < n))∨x∈s.drop (s.countP (· < n)):=by rw[←List.mem_append,List.take_append_drop]
 rw[this]
 constructor
 ·rintro (h|h|h)
  ·exact .inr (.inl h)
  ·exact .inl h
  ·exact .inr (.inr h)
 ·rintro (h|h|h)
  ·exact .inr (.inl h)
  ·exact .inl h
  ·exact .inr (.inr h)
theorem z54 (n:Int) (s:List Int) (hs:s.Pairwise (· < ·)) (hn:n∉s):(zj7 n s).Pairwise (· < ·):=by
 obtain⟨h1,h2⟩:=zw6 s n hs
 unfold zj7
 refine List.pairwise_append.2 ⟨hs.take,List.pairwise_cons.2 ⟨fun x hx => ?_,hs.drop⟩,fun x hx y hy => ?_⟩
 ·have:=h2 x hx
  have:x≠n:=fun e=>hn (e▸List.mem_of_mem_drop hx)
  omega
 ·have h3:=h1 x hx
  rcases List.mem_cons.1 hy with rfl|hy
  ·exact h3
  ·have:=h2 y hy;omega
def zc1 (got:Int) (held:List Int) (n:Int):Int × List Int :=
 if n=got then zca (got+1) held else if got<n∧n∉held then (got,zj7 n held)else (got,held)
def zh5 (got:Int) (held:List Int) (n k:Int):Bool:=decide (k<got)||decide (k=n)||decide (k∈held)
theorem z8a (got next:Int) (held:List Int) (n:Int) (hg:got≤next) (hs:held.Pairwise (· < ·)) (hb:∀x∈held,got+1≤x∧x<next) (hn:0≤n∧n<next) :
 got≤(zc1 got held n).1∧(zc1 got held n).1≤next∧(∀k,k<(zc1 got held n).1→zh5 got held n k=true)∧zh5 got held n (zc1 got held n).1=false∧(zkg (zc1 got held n).1 (next-(zc1 got held n).1).toNat).filter (zh5 got held n)=(zc1 got held n).2:=by
 have th:∀k,zh5 got held n k=true↔(k<got∨k=n∨k∈held):=by intro k;simp[zh5,or_assoc]
 have thf:∀k,zh5 got held n k=false↔¬(k<got∨k=n∨k∈held):=by intro k;rw[←th];simp
 unfold zc1
 by_cases h1:n=got
 ·subst h1
  rw[if_pos rfl]
  obtain⟨a1,a2,a3,a4,a5,a6⟩:=zvb held (n+1) hs (fun x hx=>(hb x hx).1)
  generalize zca (n+1) held=r at *
  have hle:r.1≤next:=by
   by_cases h:r.1=n+1
   ·omega
   ·have:=(hb _ (a4 (r.1-1) (by omega) (by omega))).2;omega
  refine⟨by omega,hle,fun k hk=>(th k).2 ?_,(thf _).2 ?_,?_⟩
  ·by_cases h:k<n
   ·exact .inl h
   ·by_cases h':k=n
    ·exact .inr (.inl h')
    ·exact .inr (.inr (a4 k (by omega) hk))
  ·rintro (h|h|h)
   ·omega
   ·omega
   ·exact a6 h
  ·refine zgg _ _ _ _ a2 (fun x hx => ?_) fun k k1 k2 => ?_
   ·have h2:=a3 x hx;have:=hb x h2.2;omega
   ·rw[th]
    constructor
    ·rintro (h|h|h)
     ·omega
     ·omega
     ·exact a5 k h k1
    ·intro h;exact .inr (.inr (a3 k h).2)
 ·rw[if_neg h1]
  have hgot:∀h2:List Int,h2.Pairwise (· < ·)→(∀k,got≤k→(k∈h2↔(k=n∧got≤n)∨k∈held))→(∀x∈h2,got≤x∧x<next)→(∀k,k<got→zh5 got held n k=true)∧zh5 got held n got=false∧(zkg got (next-got).toNat).filter (zh5 got held n)=h2:=by
   intro h2 p1 p2 p3
   refine⟨fun k hk=>(th k).2 (.inl hk),(thf _).2 ?_,zgg _ _ _ _ p1 (fun x hx => ?_) fun k k1 k2 => ?_⟩
   ·rintro (h|h|h)
    ·omega
    ·exact h1 h.symm
    ·have:=hb got h;omega
   ·have:=p3 x hx;omega
   ·rw[th,p2 k k1]
    constructor
    ·rintro (h|h|h)
     ·omega
     ·exact .inl ⟨h,by omega⟩
     ·exact .inr h
    ·rintro (h|h)
     ·exact .inr (.inl h.1)
     ·exact .inr (.inr h)
  by_cases h2:got<n∧n∉held
  ·rw[if_pos h2]
   obtain⟨a1,a2,a3⟩:=hgot (zj7 n held) (z54 n held hs h2.2) (fun k hk=>by rw[zqz];constructor<;>(rintro (h|h)<;>first|exact .inl ⟨h,by omega⟩|exact .inl h.1|exact .inr h)) (fun x hx=>by
    rcases (zqz n held x).1 hx with rfl|hx
    ·omega
    ·have:=hb x hx;omega)
   exact⟨Int.le_refl _,by omega,a1,a2,a3⟩
  ·rw[if_neg h2]
   have hd:n<got∨n∈held:=by
    by_cases h:n∈held
    ·exact .inr h
    ·left
     have:¬got<n:=fun h'=>h2 ⟨h',h⟩
     omega
   obtain⟨a1,a2,a3⟩:=hgot held hs (fun k hk=>by
    constructor
    ·exact .inr
    ·rintro (⟨rfl,h⟩|h)
     ·rcases hd with hd|hd
      ·omega
      ·exact hd
     ·exact h) (fun x hx=>by have:=hb x hx;omega)
   exact⟨Int.le_refl _,by omega,a1,a2,a3⟩
end Go.Proofs.YtmjbgbmegbkmhaaGreat
namespace Go.Proofs.YtmjbgbmegbkmhaaGreat
set_option linter.all false
open Go.RowKit
structure Lnk where
 window:Int
 sent:List ByteArray
 base:Int
 next:Int
 way:List Int
 acks:List Int
 got:List ByteArray
 held:List Int
deriving Inhabited
structure Evt where
 kind:Int
 at_:Int
 keep:Bool
 text:ByteArray
deriving Inhabited
def yd1 (n a b:Int):Bool:=decide (a≤n)&&decide (n≤b)
theorem zxe {n a b:Int} : yd1 n a b=true↔a≤n∧n≤b:=by simp[yd1]
def zox (l:Lnk):Bool :=
 decide (l.got.length≤l.sent.length)&&decide (l.got=l.sent.take l.got.length)&&yd1 l.base 0 l.got.length&&decide (l.held.length≤l.sent.length) &&
 yd1 l.next ((l.got.length:Int)+l.held.length) (min (l.base+l.window) l.sent.length) &&
 l.way.all (fun n=>yd1 n 0 (l.next-1))&&l.acks.all (fun n=>yd1 n 0 l.got.length)&&l.held.all (fun n=>yd1 n ((l.got.length:Int)+1) (l.next-1))&&decide (l.held.Pairwise (· < ·))
def zyt (l:Lnk):Int:=if ¬(1≤l.window∧l.window≤16)then 1 else if 200<l.sent.length∨1000<l.way.length∨1000<l.acks.length then 2 else if zox l=true then 0 else 4
structure LnkR (l : Lnk) : Prop where
 w:1≤l.window∧l.window≤16
 s:l.sent.length≤200
 y:l.way.length≤1000
 a:l.acks.length≤1000
 g:l.got.length≤l.sent.length
 p:l.got=l.sent.take l.got.length
 b:0≤l.base∧l.base≤l.got.length
 h:l.held.length≤l.sent.length
 n:(l.got.length:Int)+l.held.length≤l.next∧l.next≤l.base+l.window∧l.next≤l.sent.length
 wy:∀n∈l.way,0≤n∧n<l.next
 ak:∀n∈l.acks,0≤n∧n≤l.got.length
 hd:∀n∈l.held,(l.got.length:Int)+1≤n∧n<l.next
 up:l.held.Pairwise (· < ·)
theorem zcq (l:Lnk):zyt l=0↔LnkR l:=by
 unfold zyt
 constructor
 ·intro h
  split at h
  ·simp at h
  ·rename_i h1
   split at h
   ·simp at h
   ·rename_i h2
    split at h
    ·rename_i h3
     simp only[zox,Bool.and_eq_true,decide_eq_true_eq,zxe,List.all_eq_true]at h3
     obtain⟨⟨⟨⟨⟨⟨⟨⟨a1,a2⟩,a3⟩,a4⟩,a5⟩,a6⟩,a7⟩,a8⟩,a9⟩:=h3
     exact⟨by omega,by omega,by omega,by omega,a1,a2,a3,a4,⟨a5.1,by omega,by omega⟩,fun n hn=>by have:=a6 n hn;omega,a7,fun n hn=>by have:=a8 n hn;omega,a9⟩
    ·simp at h
 ·intro R
  rw[if_neg (by have:=R.w;omega),if_neg (by have:=R.s;have:=R.y;have:=R.a;omega),if_pos]
  simp only[zox,Bool.and_eq_true,decide_eq_true_eq,zxe,List.all_eq_true]
  exact⟨⟨⟨⟨⟨⟨⟨⟨R.g,R.p⟩,R.b⟩,R.h⟩,R.n.1,by have:=R.n;omega⟩,fun n hn=>by have:=R.wy n hn;omega⟩,R.ak⟩,fun n hn=>by have:=R.hd n hn;omega⟩,R.up⟩
def zhy (l:List Int) (i:Nat):List Int:=l.take i++l.drop (i+1)
def zp8 (l:List Int) (i:Int) (keep:Bool):List Int:=if keep then l else zhy l i.toNat
def za8 (l:Lnk):Int:=min (l.base+l.window) l.sent.length
def zga (l:Lnk) (x:Evt):Lnk × Int :=
 if x.kind=1 then (if l.sent.length=200 then (l,6)else ({ l with sent:=l.sent ++ [x.text] },0))
 else if x.kind=2 then (if 1000<(l.way.length:Int)+za8 l-l.base then (l,6)else ({ l with next:=za8 l,way:=l.way++zkg l.base (za8 l-l.base).toNat },0))
 else if x.kind=3 then (if x.at_<0∨(l.way.length:Int)≤x.at_ then (l,7)else if l.acks.length=1000 then (l,6)else
  let r:=zc1 l.got.length l.held (l.way.getD x.at_.toNat 0)
  ({ l with way:=zp8 l.way x.at_ x.keep,got:=l.sent.take r.1.toNat,held:=r.2,acks:=l.acks ++ [r.1] },0))
 else if x.kind=4 then (if x.at_<0∨(l.acks.length:Int)≤x.at_ then (l,7)else
  let b:=max l.base (l.acks.getD x.at_.toNat 0)
  ({ l with acks:=zp8 l.acks x.at_ x.keep,base:=b,next:=max l.next b },0))
 else if x.kind=5 then (if x.keep then (if x.at_<0∨(l.acks.length:Int)≤x.at_ then (l,7)else ({ l with acks:=zhy l.acks x.at_.toNat },0))
  else (if x.at_<0∨(l.way.length:Int)≤x.at_ then (l,7)else ({ l with way:=zhy l.way x.at_.toNat },0)))
 else (l,1)
theorem zkr {l:List Int} {i:Nat} {n:Int} (h:n∈zhy l i):n∈l:=by
 unfold zhy at h
 rcases List.mem_append.1 h with h|h
 ·exact List.mem_of_mem_take h
 ·exact List.mem_of_mem_drop h
theorem zks (l:List Int) (i:Nat):(zhy l i).length≤l.length:=by
 unfold zhy;simp;omega
theorem zp6 {l:List Int} {i:Int} {k:Bool} {n:Int} (h:n∈zp8 l i k):n∈l:=by
 unfold zp8 at h
 split at h
 ·exact h
 ·exact zkr h
theorem zp7 (l:List Int) (i:Int) (k:Bool):(zp8 l i k).length≤l.length:=by
 unfold zp8
 split
 ·exact Nat.le_refl _
 ·exact zks _ _
theorem z0y:∀(m:Nat) (a:Int),(zkg a m).Pairwise (· < ·)
 | 0,_ => .nil
 | m+1,a=>by
  rw[zqr]
  exact List.pairwise_cons.2 ⟨fun x hx=>by have:=zob hx;omega,z0y m (a+1)⟩
theorem zoc (a:Int) (m:Nat):(zkg a m).length=m:=by simp[zkg]
structure ComesOk (l : Lnk) (r : Int × List Int) : Prop where
 g:(l.got.length:Int)≤r.1∧r.1≤l.next
 n:r.1+r.2.length≤l.next
 h:∀x∈r.2,r.1+1≤x∧x<l.next
 up:r.2.Pairwise (· < ·)
theorem LnkR.comes {l:Lnk} (R:LnkR l) {n:Int} (hn:0≤n∧n<l.next):ComesOk l (zc1 l.got.length l.held n):=by
 have hgn:(l.got.length:Int)≤l.next:=by have:=R.n;omega
 obtain⟨c1,c2,c3,c4,c5⟩:=z8a l.got.length l.next l.held n hgn R.up R.hd hn
 generalize zc1 l.got.length l.held n=r at *
 have hm:∀x∈r.2,r.1+1≤x∧x<l.next:=by
  intro x hx
  rw[←c5]at hx
  obtain⟨h1,h2⟩:=List.mem_filter.1 hx
  have h3:=zob h1
  have:x≠r.1:=fun e=>by rw[e,c4]at h2;simp at h2
  omega
 have hup:r.2.Pairwise (· < ·):=by rw[←c5];exact(z0y _ _).filter _
 refine⟨⟨c1,c2⟩,?_,hm,hup⟩
 have:r.2.length≤(l.next-r.1).toNat:=by
  rw[←c5]
  exact Nat.le_trans (List.length_filter_le _ _) (by rw[zoc];exact Nat.le_refl _)
 omega
theorem zr0 (l:List Int) (i:Nat) (h:i<l.length):l.getD i 0∈l:=by
 rw[List.getD_eq_getElem?_getD,List.getElem?_eq_getElem h];exact List.getElem_mem h
theorem zyu {l:Lnk} (R:LnkR l) (x:Evt):LnkR (zga l x).1:=by
 obtain⟨w,s,y,a,g,p,b,h,n,wy,ak,hd,up⟩:=R
 have R:LnkR l:=⟨w,s,y,a,g,p,b,h,n,wy,ak,hd,up⟩
 unfold zga
 by_cases k1:x.kind=1
 ·rw[if_pos k1]
  split
  ·exact R
  ·rename_i h1
   refine⟨w,by simp;omega,y,a,by simp;omega,?_,b,by simp;omega,⟨n.1,n.2.1,by simp;omega⟩,wy,ak,hd,up⟩
   show l.got=(l.sent ++ [x.text]).take l.got.length
   rw[List.take_append_of_le_length g];exact p
 rw[if_neg k1]
 by_cases k2:x.kind=2
 ·rw[if_pos k2]
  split
  ·exact R
  ·rename_i h1
   have hs:l.next≤za8 l∧l.base≤za8 l∧za8 l≤l.base+l.window∧za8 l≤l.sent.length:=by unfold za8;omega
   refine⟨w,s,?_,a,g,p,b,h,⟨?_,hs.2.2.1,hs.2.2.2⟩,fun m hm => ?_,ak,fun m hm => ?_,up⟩
   ·simp only[List.length_append,zoc];omega
   ·show (l.got.length:Int)+l.held.length≤za8 l;omega
   ·rcases List.mem_append.1 hm with hm|hm
    ·have:=wy m hm;show 0≤m∧m<za8 l;omega
    ·have:=zob hm;show 0≤m∧m<za8 l;omega
   ·have:=hd m hm;show (l.got.length:Int)+1≤m∧m<za8 l;omega
 rw[if_neg k2]
 by_cases k3:x.kind=3
 ·rw[if_pos k3]
  split
  ·exact R
  ·rename_i h1
   split
   ·exact R
   ·rename_i h2
    have hm:=zr0 l.way x.at_.toNat (by omega)
    obtain⟨c1,c2,c3,c4⟩:=R.comes (wy _ hm)
    simp only
    generalize zc1 l.got.length l.held (l.way.getD x.at_.toNat 0)=r at *
    have hl:(l.sent.take r.1.toNat).length=r.1.toNat:=by rw[List.length_take];omega
    refine⟨w,s,Nat.le_trans (zp7 _ _ _) y,by simp;omega,?_,?_,⟨b.1,?_⟩,?_,⟨?_,n.2.1,n.2.2⟩,fun m hm=>wy m (zp6 hm),fun m hm => ?_,fun m hm => ?_,c4⟩
    ·show (l.sent.take r.1.toNat).length≤l.sent.length;omega
    ·show l.sent.take r.1.toNat=l.sent.take (l.sent.take r.1.toNat).length;rw[hl]
    ·show l.base≤((l.sent.take r.1.toNat).length:Int);omega
    ·show r.2.length≤l.sent.length;omega
    ·show ((l.sent.take r.1.toNat).length:Int)+r.2.length≤l.next;omega
    ·show 0≤m∧m≤((l.sent.take r.1.toNat).length:Int)
     rcases List.mem_append.1 hm with hm|hm
     ·have:=ak m hm;omega
     ·simp at hm;omega
    ·show ((l.sent.take r.1.toNat).length:Int)+1≤m∧m<l.next
     have:=c3 m hm;omega
 rw[if_neg k3]
 by_cases k4:x.kind=4
 ·rw[if_pos k4]
  split
  ·exact R
  ·rename_i h1
   have hm:=ak _ (zr0 l.acks x.at_.toNat (by omega))
   simp only
   generalize l.acks.getD x.at_.toNat 0=v at *
   refine⟨w,s,y,Nat.le_trans (zp7 _ _ _) a,g,p,⟨?_,?_⟩,h,⟨?_,?_,?_⟩,fun m hm => ?_,fun m hm=>ak m (zp6 hm),fun m hm => ?_,up⟩
   ·show 0≤max l.base v;omega
   ·show max l.base v≤l.got.length;omega
   ·show (l.got.length:Int)+l.held.length≤max l.next (max l.base v);omega
   ·show max l.next (max l.base v)≤max l.base v+l.window;omega
   ·show max l.next (max l.base v)≤l.sent.length;omega
   ·have:=wy m hm;show 0≤m∧m<max l.next (max l.base v);omega
   ·have:=hd m hm;show (l.got.length:Int)+1≤m∧m<max l.next (max l.base v);omega
 rw[if_neg k4]
 by_cases k5:x.kind=5
 ·rw[if_pos k5]
  split
  ·split
   ·exact R
   ·exact⟨w,s,y,Nat.le_trans (zks _ _) a,g,p,b,h,n,wy,fun m hm=>ak m (zkr hm),hd,up⟩
  ·split
   ·exact R
   ·exact⟨w,s,Nat.le_trans (zks _ _) y,a,g,p,b,h,n,fun m hm=>wy m (zkr hm),ak,hd,up⟩
 rw[if_neg k5]
 exact R
end Go.Proofs.YtmjbgbmegbkmhaaGreat
namespace Go.Proofs.YtmjbgbmegbkmhaaGreat
set_option linter.all false
open Go.RowKit Go.Shelf
set_option maxRecDepth 100000
set_option maxHeartbeats 1000000
theorem zdl (b:Nat) (t:TypeId):∀(vs:List Value) (o:Nat) (w:World) (cur:Array Value),w.heap[b]? = some (.cells cur t (0,0))→o+vs.length≤cur.size →
 ∃cur',(w.setCells b o vs).heap[b]? = some (.cells cur' t (0,0))∧cur'.size=cur.size∧∀j,cur'[j]? = if o≤j∧j<o+vs.length then vs[j-o]? else cur[j]?
 | [],o,w,cur,h,_=>⟨cur,h,rfl,fun j=>by rw[if_neg (by simp only[List.length_nil];omega)]⟩
 | v::r,o,w,cur,h,hl=>by
  simp only[List.length_cons]at hl
  have h1:(w.setCell ⟨b,o,none⟩ v).heap[b]? = some (.cells (cur.setIfInBounds o v) t (0,0)):=by
   simp[World.setCell,Array.getElem?_modify,h]
  obtain⟨cur',e1,e2,e3⟩:=zdl b t r (o+1) _ _ h1 (by simp;omega)
  refine⟨cur',e1,by simpa using e2,fun j => ?_⟩
  rw[e3 j]
  simp only[List.length_cons]
  by_cases hj:j=o
  ·subst hj
   rw[if_neg (by omega),if_pos (by omega),Nat.sub_self,Array.getElem?_setIfInBounds_self,if_pos (by omega)];rfl
  ·rw[Array.getElem?_setIfInBounds_ne (Ne.symm hj)]
   by_cases h2:o+1≤j∧j<o+1+r.length
   ·rw[if_pos h2,if_pos (by omega),show j-o=(j-(o+1))+1 from by omega,List.getElem?_cons_succ]
   ·rw[if_neg h2,if_neg (by omega)]
theorem zcn (b:Nat):∀(vs:List Value) (o:Nat) (w:World),(w.setCells b o vs).os=w.os∧(w.setCells b o vs).tape=w.tape∧(w.setCells b o vs).output=w.output∧(w.setCells b o vs).heap.size=w.heap.size∧∀k,k≠b→(w.setCells b o vs).heap[k]? = w.heap[k]?
 | [],_,_=>⟨rfl,rfl,rfl,rfl,fun _ _=>rfl⟩
 | v::r,o,w=>by
  obtain⟨h1,h2,h3,h4,h5⟩:=zcn b r (o+1) (w.setCell ⟨b,o,none⟩ v)
  refine⟨h1,h2,h3,by rw[World.setCells,h4];simp[World.setCell],fun k hk => ?_⟩
  rw[World.setCells,h5 k hk]
  simp[World.setCell,Array.getElem?_modify,Ne.symm hk]
def z93 (w:World) (t:TypeId) (own:Option Nat) (vals:List Value) (v':Value) (w':World):Prop :=
 w'.ownsRow 0 t 1 v' vals.length vals∧w.grownBy w' own∧(v'.ownBlock=own∨∀q,v'.ownBlock=some q→w.heap.size≤q)
section
variable {P : Program} {ρ : Ren}
theorem zmj (w:World) (o:Obj) (row:Option Nat):w.grownBy (w.drew.alloc o) row:=⟨rfl,rfl,rfl,by show w.heap.size≤(w.heap.push o).size;simp,fun k hk _=>heap_alloc_old w o hk⟩
theorem zrt (L:Lays2.n21 P ρ) (w:World) (v0:Value) (cs:List Value) (hown:w.ownsRow 0 (ρ.t 3) 1 v0 cs.length cs) (h1c:∀v∈cs,v.oneCell'=true) (i:Nat) (hi:i≤cs.length) (hsm:cs.length≤1000000) (vb c1:Nat) (cur1:Array Value) (T1:TypeId) (hv:w.heap[vb]? = some (.cells cur1 T1 (0,0))) (x:Value) (hx:cur1[0]? = some x) (hx1:x.oneCell'=true) (hne:v0.ownBlock≠some vb) :
 Calls P (ρ.f 21) #[v0,.int .i64 i,.slice (some ⟨vb,0,none⟩) 1 c1] w fun e w'=>∃v',e = .returned v'∧z93 w (ρ.t 3) v0.ownBlock (cs.take i++x::cs.drop i) v' w':=by
 have hvs:∀j v,[x][j]? = some v→w.cell? ⟨vb,0+j,none⟩=some v:=by
  intro j v hj
  cases j with
  | zero=>simp at hj;subst hj;simp[World.cell?,hv,hx]
  | succ j=>simp at hj
 have h1v:∀v ∈ [x],v.oneCell'=true:=by simpa using hx1
 have hlen:(cs.take i++x::cs.drop i).length=cs.length+1:=by simp;omega
 have hgc:=grownCap_ge w (cs.length+1)
 have grown:∀(cur:Array Value) (cap:Nat),cur.size=cap→cs.length+1≤cap→cap≤maxLen→(∀j,j<cs.length+1→cur[j]? = (cs.take i++x::cs.drop i)[j]?)→(w.alloc (.cells cur (ρ.t 3))).ownsRow 0 (ρ.t 3) 1 (.slice (some ⟨w.heap.size,0,none⟩) (cs.length+1) cap) (cs.length+1) (cs.take i++x::cs.drop i):=by
  intro cur cap h1 h2 h3 h4
  refine⟨by rw[hlen,Nat.mul_one],.inr ⟨_,cap,cur,rfl,Nat.zero_le _,heap_alloc_new w _,h2,h3,by rw[Nat.mul_one];exact h1,?_⟩⟩
  apply List.ext_getElem?
  intro j
  rw[Nat.mul_one,List.getElem?_take]
  split
  ·rename_i hj;rw[Array.getElem?_toList];exact h4 j hj
  ·rename_i hj;rw[List.getElem?_eq_none (by omega)]
 have gmax:∀c,grownCap w (cs.length+1) c (ρ.t 3)≤maxLen:=fun c=>grownCap_le_maxLen w _ _ _ (by unfold maxLen;omega)
 rcases hown.2 with ⟨rfl,hn⟩|⟨b,cap,cur,rfl,_,hg,hnc,hcm,hcs,htake⟩
 ·obtain rfl:cs = []:=List.eq_nil_of_length_eq_zero hn
  obtain rfl:i=0:=by simpa using hi
  refine(Any2.slices_Insert_int_end_grow L none 0 0 vb 0 1 c1 [] [x] w (by omega) (by omega) (by omega) (by omega) rfl rfl (fun _=>rfl) (by simp) hvs h1v).mono ?_
  rintro e w' ⟨rfl,rfl⟩
  refine⟨_,rfl,?_,zmj w _ _,.inr fun q hq=>by simp[Value.ownBlock]at hq;omega⟩
  rw[hlen]
  exact grown _ _ (by simp[size_zeroCells,Value.cells];have:=hgc 0 (ρ.t 3);simp at this;omega) (hgc _ _) (gmax 0) fun j hj=>by
   have:j=0:=by simpa using hj
   subst this
   rw[Array.getElem?_append_left (by simp)];simp
 ·have hcell:∀j v,cs[j]? = some v→w.cell? ⟨b,0+j,none⟩=some v:=by
   intro j v hj
   have:=hown.cells (g:=b) rfl j v hj
   rwa [Addr.add_lit]at this
  have hcur:∀j,j<cs.length→cur[j]? = cs[j]? := by
   intro j hj
   rw[←htake,List.getElem?_take,if_pos (by omega),Array.getElem?_toList]
  rw[Nat.mul_one]at hcs
  by_cases hroom:cs.length+1≤cap
  ·have fin:∀(W:World) (cur':Array Value),W.heap[b]? = some (.cells cur' (ρ.t 3) (0,0))→cur'.size=cap→(∀j,j<cs.length+1→cur'[j]? = (cs.take i++x::cs.drop i)[j]?)→W.os=w.os→W.tape=w.tape→W.output=w.output→W.heap.size=w.heap.size→(∀k,k≠b→W.heap[k]? = w.heap[k]?)→z93 w (ρ.t 3) (some b) (cs.take i++x::cs.drop i) (.slice (some ⟨b,0,none⟩) (cs.length+1) cap) W:=by
    intro W cur' e1 e2 e3 e4 e5 e6 e7 e8
    refine⟨⟨by rw[Nat.mul_one],.inr ⟨b,cap,cur',by rw[hlen],Nat.zero_le _,e1,by omega,hcm,by rw[Nat.mul_one];exact e2,?_⟩⟩,⟨e4,e5,e6,by omega,fun k _ hk=>e8 k fun h=>hk (by rw[h])⟩,.inl rfl⟩
    apply List.ext_getElem?
    intro j
    rw[Nat.mul_one,hlen,List.getElem?_take]
    split
    ·rename_i hj;rw[Array.getElem?_toList];exact e3 j hj
    ·rename_i hj;rw[List.getElem?_eq_none (by omega)]
   have some_:∀j,j<cap→(w.cell? ⟨b,0+j,none⟩).isSome=true:=by
    intro j hj
    simp only[World.cell?,hg,Nat.zero_add]
    simp[hcs,hj]
   have nofz:∀j,w.frozen? ⟨b,j,none⟩=false:=by
    intro j
    simp only[World.frozen?,hg]
    simp
   by_cases hin:i<cs.length
   ·have hvb:vb≠b:=fun h=>hne (by rw[h];rfl)
    have nofv:∀j,w.frozen? ⟨vb,j,none⟩=false:=by
     intro j
     simp only[World.frozen?,hv]
     simp
    refine(Any2.slices_Insert_int_shift L b 0 cs.length cap i vb 0 1 c1 cs [x] w hin (by omega) hroom (by unfold maxLen at hcm;omega) hvb rfl rfl hcell (fun j hj=>some_ j (by omega)) (fun j _=>nofz _) hvs h1c h1v T1 (ρ.t 3) cur1.size cur.size (by simp[World.shape?,hv]) (by simp[World.shape?,hg]) (by omega) (nofv _) (nofv _)).mono ?_
    rintro e w' ⟨rfl,rfl⟩
    refine⟨_,rfl,?_⟩
    obtain⟨cu1,a1,a2,a3⟩:=zdl b (ρ.t 3) (cs.drop i) (0+(i+1)) w.drew cur hg (by simp;omega)
    obtain⟨cu2,b1,b2,b3⟩:=zdl b (ρ.t 3) [x] (0+i) _ cu1 a1 (by simp;omega)
    obtain⟨r1,r2,r3,r4,r5⟩:=zcn b (cs.drop i) (0+(i+1)) w.drew
    obtain⟨s1,s2,s3,s4,s5⟩:=zcn b [x] (0+i) (w.drew.setCells b (0+(i+1)) (cs.drop i))
    refine fin _ cu2 b1 (by omega) (fun j hj => ?_) (s1.trans r1) (s2.trans r2) (s3.trans r3) (s4.trans r4) fun k hk=>(s5 k hk).trans (r5 k hk)
    rw[b3,a3]
    simp only[List.length_cons,List.length_nil,List.length_drop,Nat.zero_add]
    rcases Nat.lt_trichotomy j i with h|h|h
    ·rw[if_neg (by omega),if_neg (by omega),hcur j (by omega),List.getElem?_append_left (by simp;omega),List.getElem?_take,if_pos h]
    ·subst h
     rw[if_pos (by omega),List.getElem?_append_right (by rw[List.length_take];omega),List.length_take,Nat.min_eq_left (by omega)]
     simp
    ·rw[if_neg (by omega),if_pos (by omega),List.getElem?_append_right (by simp;omega),List.length_take,Nat.min_eq_left (by omega),show j-i=(j-(i+1))+1 from by omega,List.getElem?_cons_succ]
   ·obtain rfl:i=cs.length:=by omega
    refine(Any2.slices_Insert_int_end_room L b 0 cs.length cap vb 0 1 c1 [x] w (by omega) hroom (by unfold maxLen at hcm;omega) rfl (fun j hj=>by have:=some_ (cs.length+j) (by omega);rwa [←Nat.add_assoc]at this) (fun j _=>nofz _) hvs h1v).mono ?_
    rintro e w' ⟨rfl,rfl⟩
    refine⟨_,rfl,?_⟩
    obtain⟨cu1,a1,a2,a3⟩:=zdl b (ρ.t 3) [x] (0+cs.length) w cur hg (by simp;omega)
    obtain⟨r1,r2,r3,r4,r5⟩:=zcn b [x] (0+cs.length) w
    refine fin _ cu1 a1 (by omega) (fun j hj => ?_) r1 r2 r3 r4 r5
    rw[a3]
    simp only[List.length_cons,List.length_nil,Nat.zero_add,List.take_length,List.drop_length]
    by_cases h:j<cs.length
    ·rw[if_neg (by omega),hcur j h,List.getElem?_append_left h]
    ·rw[if_pos (by omega),List.getElem?_append_right (by omega)]
  ·by_cases hin:i<cs.length
   ·refine(Any2.slices_Insert_int_grow L b 0 cs.length cap i vb 0 1 c1 cs [x] w hin (by omega) hnc (by omega) (by omega) rfl rfl hcell hvs h1c h1v).mono ?_
    rintro e w' ⟨rfl,rfl⟩
    refine⟨_,rfl,?_⟩
    have hG:=hgc cap (ρ.t 3)
    generalize hcap':grownCap w (cs.length+1) cap (ρ.t 3)=cap' at *
    have hgm:cap'≤maxLen:=by rw[←hcap'];exact gmax cap
    let cu0:Array Value:=(cs.take i).toArray++Builtin.zeroCells (Value.int .i64 0).cells (cs.length+1-i)++Builtin.zeroCells (Value.int .i64 0).cells (cap'-(cs.length+1))
    have hs0:cu0.size=cap':=by simp[cu0,size_zeroCells,Value.cells];omega
    have h0:(w.alloc (.cells cu0 (ρ.t 3))).drew.heap[w.heap.size]? = some (.cells cu0 (ρ.t 3) (0,0)):=heap_alloc_new w _
    obtain⟨cu1,a1,a2,a3⟩:=zdl w.heap.size (ρ.t 3) [x] i _ cu0 h0 (by simp;omega)
    obtain⟨cu2,b1,b2,b3⟩:=zdl w.heap.size (ρ.t 3) (cs.drop i) (i+1) (((w.alloc (.cells cu0 (ρ.t 3))).drew.setCells w.heap.size i [x]).drew) cu1 a1 (by simp;omega)
    obtain⟨r1,r2,r3,r4,r5⟩:=zcn w.heap.size [x] i (w.alloc (.cells cu0 (ρ.t 3))).drew
    obtain⟨s1,s2,s3,s4,s5⟩:=zcn w.heap.size (cs.drop i) (i+1) (((w.alloc (.cells cu0 (ρ.t 3))).drew.setCells w.heap.size i [x]).drew)
    have hsz1:(w.alloc (.cells cu0 (ρ.t 3))).drew.heap.size=w.heap.size+1:=by show (w.heap.push _).size=_;simp
    refine⟨⟨by rw[Nat.mul_one],.inr ⟨w.heap.size,cap',cu2,by rw[hlen],Nat.zero_le _,b1,by omega,hgm,by omega,?_⟩⟩,⟨s1.trans r1,s2.trans r2,s3.trans r3,?_,fun k hk _ => ?_⟩,.inr fun q hq=>by simp[Value.ownBlock]at hq;omega⟩
    ·apply List.ext_getElem?
     intro j
     rw[Nat.mul_one,hlen,List.getElem?_take]
     split
     ·rename_i hj
      rw[Array.getElem?_toList,b3,a3]
      simp only[List.length_cons,List.length_nil,List.length_drop]
      rcases Nat.lt_trichotomy j i with h|h|h
      ·rw[if_neg (by omega),if_neg (by omega),List.getElem?_append_left (by simp;omega)]
       simp only[cu0]
       rw[Array.append_assoc,Array.getElem?_append_left (by simp;omega)]
       simp
      ·subst h
       rw[if_neg (by omega),if_pos (by omega),List.getElem?_append_right (by rw[List.length_take];omega),List.length_take,Nat.min_eq_left (by omega)]
       simp
      ·rw[if_pos (by omega),List.getElem?_append_right (by simp;omega),List.length_take,Nat.min_eq_left (by omega),show j-i=(j-(i+1))+1 from by omega,List.getElem?_cons_succ]
     ·rename_i hj;rw[List.getElem?_eq_none (by omega)]
    ·have e1:(((w.alloc (.cells cu0 (ρ.t 3))).drew.setCells w.heap.size i [x]).drew.setCells w.heap.size (i+1) (cs.drop i)).heap.size=w.heap.size+1:=(s4.trans r4).trans hsz1
     show w.heap.size≤(((w.alloc (.cells cu0 (ρ.t 3))).drew.setCells w.heap.size i [x]).drew.setCells w.heap.size (i+1) (cs.drop i)).heap.size
     omega
    ·exact((s5 k (by omega)).trans (r5 k (by omega))).trans (heap_alloc_old w _ hk)
   ·obtain rfl:i=cs.length:=by omega
    refine(Any2.slices_Insert_int_end_grow L (some ⟨b,0,none⟩) cs.length cap vb 0 1 c1 cs [x] w (by omega) hnc (by omega) (by omega) rfl rfl (by simp) (fun a ha j v hj=>by cases ha;rw[Addr.add_lit];exact hcell j v hj) hvs h1v).mono ?_
    rintro e w' ⟨rfl,rfl⟩
    refine⟨_,rfl,?_,zmj w _ _,.inr fun q hq=>by simp[Value.ownBlock]at hq;omega⟩
    rw[hlen]
    exact grown _ _ (by simp[size_zeroCells,Value.cells];have:=hgc cap (ρ.t 3);omega) (hgc _ _) (gmax cap) fun j hj=>by
     rw[Array.getElem?_append_left (by simp;omega)]
     simp
theorem zwd {U F:Nat→Prop} {β : Nat→Option Bind} {w:World} {bd:Bind} {e:TypeId} {xs:List Int} (h:ChOk U w F β bd (.row e 1 (xs.map fun n => [.v (.int .i64 n)]))):w.ownsRow 0 e 1 bd.v (xs.map (Value.int .i64)).length (xs.map (Value.int .i64))∧bd.v.ownBlock=bd.b:=by
 obtain⟨h1,h2,h3,h4⟩:=h
 simp only[List.length_map]at h2 h4 ⊢
 rcases h4 with ⟨h5,h6,h7⟩|⟨g,cap,cur,h5,h6,h7,h8,h9,h10,hE⟩
 ·obtain rfl:xs = []:=by simpa using h6
  rw[h7,h5]
  exact⟨World.ownsRow_nil w 0 e 1,rfl⟩
 ·rw[h6,h5]
  refine⟨⟨by simp,.inr ⟨g,cap,cur,rfl,Nat.zero_le _,h7,h8,h9,h10,?_⟩⟩,rfl⟩
  apply List.ext_getElem?
  intro j
  rw[List.getElem?_take,List.getElem?_map]
  split
  ·rename_i hj
   have hj:j<xs.length:=by omega
   obtain⟨_,hC⟩:=hE.at j [.v (.int .i64 xs[j])] (by simp[hj])
   obtain⟨u,hu,hr⟩:=hC.at 0 _ rfl
   simp only[RelP]at hr
   simp only[World.cell?,h7,Nat.zero_add,Nat.mul_one,Nat.add_zero,Option.isSome_none,Bool.false_eq_true,if_false]at hu
   rw[Array.getElem?_toList,hu,hr.1]
   simp[hj]
  ·rename_i hj
   rw[List.getElem?_eq_none (by omega)];rfl
theorem z7b (L:Lays2.n21 P ρ) (hent:zfn P (ρ.f 21)) (xs:List Int) (i:Nat) (hi:i≤xs.length) (hsm:xs.length≤1000000) (x:Int) :
 Spec P (ρ.f 21) [.own 0,I .i64 i,.own 1] [.row (ρ.t 3) 1 (xs.map fun n => [.v (.int .i64 n)]),.row (ρ.t 3) 1 [[.v (.int .i64 x)]]] (.own 2) [.dead,.dead,.row (ρ.t 3) 1 ((xs.take i++x::xs.drop i).map fun n => [.v (.int .i64 n)])]:=by
 refine⟨hent,by simp,fun w F β vs M hv => ?_⟩
 simp only[RelL]at hv
 obtain⟨v0,_,rfl,hv0,u1,_,rfl,hu1,v1,_,rfl,hv1,rfl⟩:=hv
 obtain⟨rfl,_⟩:=relC.1 hu1
 obtain⟨b0,hb0,H0⟩:=M.ch 0 (by simp[nth])
 obtain⟨b1,hb1,H1⟩:=M.ch 1 (by simp[nth])
 simp only[RelA]at hv0 hv1
 obtain rfl:=hv0.2.2 b0 hb0
 obtain rfl:=hv1.2.2 b1 hb1
 change ChOk _ w F β b0 (.row (ρ.t 3) 1 (xs.map fun n => [.v (.int .i64 n)]))at H0
 change ChOk _ w F β b1 (.row (ρ.t 3) 1 ([x].map fun n => [.v (.int .i64 n)]))at H1
 obtain⟨own0,blk0⟩:=zwd H0
 obtain⟨_,_,_,H1⟩:=H1
 obtain⟨bs0,_⟩:=H0
 rcases H1 with ⟨_,h,_⟩|⟨g1,cap1,cur1,h5,h6,h7,h8,h9,h10,hE⟩
 ·simp at h
 obtain⟨_,hC⟩:=hE.at 0 [.v (.int .i64 x)] rfl
 obtain⟨u,hu,hr⟩:=hC.at 0 _ rfl
 simp only[RelP]at hr
 have hx:cur1[0]? = some (.int .i64 x):=by
  rw[hr.1]at hu
  simpa[World.cell?,h7]using hu
 have hne:b0.v.ownBlock≠some g1:=fun h=>absurd (M.dis 0 1 b0 b1 g1 hb0 hb1 (.inl (by rw[←blk0];exact h)) (.inl h5)) (by decide)
 have hC:=zrt L w b0.v _ own0 (by simp[Value.oneCell']) i (by simpa using hi) (by simpa using hsm) g1 cap1 cur1 _ h7 _ hx rfl hne
 rw[h6]
 refine hC.mono ?_
 rintro en w' ⟨v',rfl,hown',hgr,hob⟩
 have hval:(xs.map (Value.int .i64)).take i++Value.int .i64 x::(xs.map (Value.int .i64)).drop i=(xs.take i++x::xs.drop i).map (Value.int .i64):=by simp
 rw[hval]at hown'
 generalize hzs:xs.take i++x::xs.drop i=zs at *
 simp only[List.length_map]at hown'
 let bd':Bind:=⟨v',v'.ownBlock,zs.length,1,[]⟩
 have hvlt:∀q,v'.ownBlock=some q→q<w'.heap.size∧(w.heap.size≤q∨b0.b=some q):=by
  intro q hq
  refine⟨(hown'.lt q hq).2,?_⟩
  rcases hob with h|h
  ·exact .inr (by rw[←blk0,←h];exact hq)
  ·exact .inl (h q hq)
 have oth:∀j,¬(j=2∨j=0∨j=1)→¬2=j∧¬0=j∧¬1=j:=fun j h=>⟨fun e=>h (.inl e.symm),fun e=>h (.inr (.inl e.symm)),fun e=>h (.inr (.inr e.symm))⟩
 have hb2:∀bd,β 2≠some bd:=fun bd hb=>absurd (M.used 2 bd hb) (by simp)
 obtain⟨S1,S2⟩:=M.step (w':=w') (h':=nth [.dead,.dead,.row (ρ.t 3) 1 (zs.map fun n => [.v (.int .i64 n)])]) (β':=zax (zax (zax β 1 none) 0 none) 2 (some bd')) (F':=F) (U':=(· < 3)) (fun j=>j=2∨j=0∨j=1)
  (fun j hj=>by obtain⟨h1,h2,h3⟩:=oth j hj;simp only[zax,if_neg h1,if_neg h2,if_neg h3])
  (fun j hj=>by
   match j,hj with
   | 0,hj=>exact(hj (.inr (.inl rfl))).elim
   | 1,hj=>exact(hj (.inr (.inr rfl))).elim
   | 2,hj=>exact(hj (.inl rfl)).elim
   | j+3,_=>simp[nth])
  hgr.os hgr.tape hgr.output hgr.size
  (fun q hq hn=>hgr.block q hq fun he=>hn 0 b0 (.inr (.inl rfl)) hb0 (.inl (by rw[←blk0];exact he.symm)))
  (fun j hj=>by simp at hj;omega) (fun b hb=>hb) (fun b hb=>⟨Nat.lt_of_lt_of_le (M.fin b hb) hgr.size,.inl hb⟩)
  (fun j bd hj hu hb=>by
   rcases hj with rfl|rfl|rfl
   ·simp at hu
   ·simp[zax]at hb
   ·simp[zax]at hb)
  (fun j bd hj hb=>by
   rcases hj with rfl|rfl|rfl
   ·simp only[zax,if_true,Option.some.injEq]at hb
    subst hb
    refine⟨by omega,fun q hq => ?_⟩
    obtain⟨h1,h2⟩:=hvlt q (Bind.has_nil hq)
    refine⟨h1,?_,?_⟩
    ·rcases h2 with h2|h2
     ·intro hf;have:=M.fin q hf;omega
     ·exact(M.off 0 b0 q hb0 (.inl h2)).1
    ·rcases h2 with h2|h2
     ·exact .inl h2
     ·exact .inr ⟨0,b0,.inr (.inl rfl),hb0,.inl h2⟩
   ·simp[zax]at hb
   ·simp[zax]at hb)
  (fun j j' bj bj' q hj hj' hbj hbj' _ _=>by
   have only:∀j bj,(j=2∨j=0∨j=1)→zax (zax (zax β 1 none) 0 none) 2 (some bd') j=some bj→j=2:=by
    intro j bj hj hb
    rcases hj with rfl|rfl|rfl
    ·rfl
    ·simp[zax]at hb
    ·simp[zax]at hb
   rw[only j bj hj hbj,only j' bj' hj' hbj'])
  (fun E j hj hdd=>by
   rcases hj with rfl|rfl|rfl
   ·refine⟨bd',by simp[zax],?_⟩
    change ChOk _ w' F _ bd' (.row (ρ.t 3) 1 (zs.map fun n => [.v (.int .i64 n)]))
    refine⟨⟨rfl,rfl⟩,by simp[bd'],by simp,?_⟩
    rcases hown'.2 with ⟨hv0,hn0⟩|⟨g,cap,cur,hv0,_,hg,hnc,hcm,hcs,htake⟩
    ·refine .inl ⟨by simp[bd',hv0,Value.ownBlock],?_,hv0⟩
     rw[List.eq_nil_of_length_eq_zero hn0];rfl
    ·refine .inr ⟨g,cap,cur,by simp[bd',hv0,Value.ownBlock],by simpa[bd']using hv0,hg,by simpa using hnc,hcm,hcs,RelE.of fun q cs hq => ?_⟩
     rw[List.getElem?_map]at hq
     cases hz:zs[q]? with
     | none=>rw[hz]at hq;simp at hq
     | some z =>
      rw[hz]at hq
      have hq' : [PV.v (.int .i64 z)]=cs:=by simpa using hq
      subst hq'
      refine⟨rfl,?_⟩
      simp only[RelC,and_true,Nat.mul_one,Nat.zero_add,RelP]
      refine⟨_,?_,rfl,rfl⟩
      have hlt:q<zs.length:=(List.getElem?_eq_some_iff.1 hz).1
      have e1:(cur.toList.take (zs.length*1))[q]? = some (.int .i64 z):=by
       rw[htake,List.getElem?_map,hz];rfl
      rw[List.getElem?_take,if_pos (by omega)]at e1
      unfold World.cell?
      simp only[hg]
      simpa using e1
   ·exact(hdd (by simp[nth])).elim
   ·exact(hdd (by simp[nth])).elim)
 refine⟨v',F,_,rfl,S1,?_,fun _ h=>h,fun _ h => .inl h,fun j bd hj hb => ?_⟩
 ·simp only[RelA]
  refine⟨by simp,?_,fun bd hb => ?_⟩
  ·rcases hown'.2 with ⟨hv0,_⟩|⟨g,cap,cur,hv0,_⟩<;>rw[hv0]<;>rfl
  ·simp only[zax,if_true,Option.some.injEq]at hb
   subst hb;rfl
 ·have hj':j=0∨j=1:=by simp at hj;omega
  rcases hj' with rfl|rfl<;>simp[zax]at hb
theorem z05 (w:World) (b:Nat) (t:TypeId) (cur:Array Value) (d:Array Int) (h:w.heap[b]? = some (.cells cur t (0,0))) (hl:d.size≤cur.size) :
 ∃cur',(Go.Sort.putRow (Value.int .i64) w b 0 d).heap[b]? = some (.cells cur' t (0,0))∧cur'.size=cur.size∧∀j (hj:j<d.size),cur'[j]? = some (.int .i64 d[j]):=by
 refine⟨Go.Sort.putCells (Value.int .i64) 0 d cur,?_,by simp[Go.Sort.putCells],fun j hj => ?_⟩
 ·simp[Go.Sort.putRow,Go.Sort.mapBlock,Array.getElem?_modify,h,Go.Sort.onCells]
 ·unfold Go.Sort.putCells
  have hc:j<cur.size:=by omega
  rw[Array.getElem?_mapIdx,Array.getElem?_eq_getElem hc]
  simp[hj]
theorem zte (w:World) (b:Nat) (d:Array Int):(Go.Sort.putRow (Value.int .i64) w b 0 d).os=w.os∧(Go.Sort.putRow (Value.int .i64) w b 0 d).tape=w.tape∧(Go.Sort.putRow (Value.int .i64) w b 0 d).output=w.output∧(Go.Sort.putRow (Value.int .i64) w b 0 d).heap.size=w.heap.size∧∀k,k≠b→(Go.Sort.putRow (Value.int .i64) w b 0 d).heap[k]? = w.heap[k]? := by
 refine⟨rfl,rfl,rfl,by simp[Go.Sort.putRow,Go.Sort.mapBlock],fun k hk => ?_⟩
 simp[Go.Sort.putRow,Go.Sort.mapBlock,Array.getElem?_modify,Ne.symm hk]
theorem z71 (L:Lays2.n23 P ρ) (hent:zfn P (ρ.f 23)) (e:TypeId) (xs:List Int) (i j:Nat) (hij:i≤j) (hj:j≤xs.length) (h0:0<xs.length) :
 Spec P (ρ.f 23) [.own 0,I .i64 i,I .i64 j] [.row e 1 (xs.map fun n => [.v (.int .i64 n)])] (.own 1) [.dead,.row e 1 ((xs.take i++xs.drop j).map fun n => [.v (.int .i64 n)])]:=by
 refine⟨hent,by simp,fun w F β vs M hv => ?_⟩
 simp only[RelL]at hv
 obtain⟨v0,_,rfl,hv0,u1,_,rfl,hu1,u2,_,rfl,hu2,rfl⟩:=hv
 obtain⟨rfl,_⟩:=relC.1 hu1
 obtain⟨rfl,_⟩:=relC.1 hu2
 obtain⟨b0,hb0,H0⟩:=M.ch 0 (by simp[nth])
 simp only[RelA]at hv0
 obtain rfl:=hv0.2.2 b0 hb0
 change ChOk _ w F β b0 (.row e 1 (xs.map fun n => [.v (.int .i64 n)]))at H0
 obtain⟨own0,blk0⟩:=zwd H0
 rcases own0.2 with ⟨_,h⟩|⟨g,cap,cur,hv0',_,hg,hnc,hcm,hcs,htake⟩
 ·simp at h;subst h;simp at h0
 rw[List.length_map]at hv0' hnc
 rw[Nat.mul_one]at hcs
 have hcell:∀q (hq:q<xs.length),cur[q]? = some (.int .i64 xs[q]):=by
  intro q hq
  have e1:(cur.toList.take ((xs.map (Value.int .i64)).length*1))[q]? = some (.int .i64 xs[q]):=by
   rw[htake,List.getElem?_map,List.getElem?_eq_getElem hq];rfl
  rw[List.getElem?_take,if_pos (by simp;omega),Array.getElem?_toList]at e1
  exact e1
 have hH:Go.Sort.Holds (Value.int .i64) w g 0 xs.toArray:=by
  intro q hq
  have hq':q<xs.length:=by simpa using hq
  refine⟨?_,by simp[World.frozen?,hg]⟩
  simp only[World.cell?,hg,Nat.zero_add]
  simp[hcell q hq',hq']
 have hC:=Any.slices_Delete_int L g 0 cap i j xs w hH hnc (by unfold maxLen at hcm;omega) hij hj
 rw[hv0']
 refine hC.mono ?_
 rintro en w' ⟨rfl,q,rfl⟩
 obtain⟨zs,hzs⟩:∃zs,zs=xs.take i++xs.drop j:=⟨_,rfl⟩
 have hzl:xs.length-(j-i)=zs.length:=by rw[hzs];simp;omega
 rw[hzl,←hzs]
 obtain⟨cur',a1,a2,a3⟩:=z05 (Go.Sort.ahead w q) g e cur (zs++List.replicate (j-i) 0).toArray hg (by simp;omega)
 obtain⟨r1,r2,r3,r4,r5⟩:=zte (Go.Sort.ahead w q) g (zs++List.replicate (j-i) 0).toArray
 generalize Go.Sort.putRow (Value.int .i64) (Go.Sort.ahead w q) g 0 (zs++List.replicate (j-i) 0).toArray=w' at *
 have hbg:b0.b=some g:=by rw[←blk0,hv0'];rfl
 let bd':Bind:=⟨.slice (some ⟨g,0,none⟩) zs.length cap,some g,zs.length,1,[]⟩
 have oth:∀t,¬(t=1∨t=0)→¬1=t∧¬0=t:=fun t h=>⟨fun e=>h (.inl e.symm),fun e=>h (.inr e.symm)⟩
 obtain⟨S1,S2⟩:=M.step (w':=w') (h':=nth [.dead,.row e 1 (zs.map fun n => [.v (.int .i64 n)])]) (β':=zax (zax β 0 none) 1 (some bd')) (F':=F) (U':=(· < 2)) (fun t=>t=1∨t=0)
  (fun t ht=>by obtain⟨h1,h2⟩:=oth t ht;simp only[zax,if_neg h1,if_neg h2])
  (fun t ht=>by
   match t,ht with
   | 0,ht=>exact(ht (.inr rfl)).elim
   | 1,ht=>exact(ht (.inl rfl)).elim
   | t+2,_=>simp[nth])
  r1 r2 r3 (by rw[r4];exact Nat.le_refl _)
  (fun b hb hn=>r5 b fun he=>hn 0 b0 (.inr rfl) hb0 (.inl (by rw[he];exact hbg)))
  (fun t ht=>by simp at ht;omega) (fun b hb=>hb) (fun b hb=>⟨by rw[r4];exact M.fin b hb,.inl hb⟩)
  (fun t bd ht hu hb=>by
   rcases ht with rfl|rfl
   ·simp at hu
   ·simp[zax]at hb)
  (fun t bd ht hb=>by
   rcases ht with rfl|rfl
   ·simp only[zax,if_true,Option.some.injEq]at hb
    subst hb
    refine⟨by omega,fun b hq => ?_⟩
    have hq:=Bind.has_nil hq
    cases hq
    obtain⟨m1,m2,_⟩:=M.off 0 b0 g hb0 (.inl hbg)
    exact⟨by rw[r4];exact m2,m1,.inr ⟨0,b0,.inr rfl,hb0,.inl hbg⟩⟩
   ·simp[zax]at hb)
  (fun t t' bj bj' b ht ht' hbj hbj' _ _=>by
   have only:∀t bj,(t=1∨t=0)→zax (zax β 0 none) 1 (some bd') t=some bj→t=1:=by
    intro t bj ht hb
    rcases ht with rfl|rfl
    ·rfl
    ·simp[zax]at hb
   rw[only t bj ht hbj,only t' bj' ht' hbj'])
  (fun E t ht hdd=>by
   rcases ht with rfl|rfl
   ·refine⟨bd',by simp[zax],?_⟩
    change ChOk _ w' F _ bd' (.row e 1 (zs.map fun n => [.v (.int .i64 n)]))
    refine⟨⟨rfl,rfl⟩,by simp[bd'],by simp,.inr ⟨g,cap,cur',rfl,by simp[bd'],a1,by simp;omega,hcm,by omega,RelE.of fun t cs ht => ?_⟩⟩
    rw[List.getElem?_map]at ht
    cases hz:zs[t]? with
    | none=>rw[hz]at ht;simp at ht
    | some z =>
     rw[hz]at ht
     have ht' : [PV.v (.int .i64 z)]=cs:=by simpa using ht
     subst ht'
     refine⟨rfl,?_⟩
     simp only[RelC,and_true,Nat.mul_one,Nat.zero_add,RelP]
     obtain⟨hlt,hz'⟩:=List.getElem?_eq_some_iff.1 hz
     refine⟨_,?_,rfl,rfl⟩
     have:=a3 t (by simp;omega)
     simp only[World.cell?,a1]
     simp only[List.getElem_toArray,List.getElem_append_left hlt]at this
     rw[hz']at this
     simpa using this
   ·exact(hdd (by simp[nth])).elim)
 refine⟨_,F,_,rfl,S1,?_,fun _ h=>h,fun _ h => .inl h,fun t bd ht hb => ?_⟩
 ·simp only[RelA]
  refine⟨by simp,rfl,fun bd hb => ?_⟩
  simp only[zax,if_true,Option.some.injEq]at hb
  subst hb;rfl
 ·have ht':t=0:=by simp at ht;omega
  subst ht'
  simp[zax]at hb
end
section
variable {P : Program} {ρ : Ren}
theorem z4d (L:Lays2.n25 P ρ) (hent:zfn P (ρ.f 25)) (xs:List Int) (x:Int) (hl:xs.length<4611686018427387904) (hs:xs.Pairwise (· ≤ ·)) :
 Spec P (ρ.f 25) [.c (.sl 1 (xs.map fun n => [.v (.int .i64 n)])),I .i64 x] [] (.tup [I .i64 (xs.countP (· < x):Nat),B (xs.contains x)]) []:=by
 refine⟨hent,Nat.le_refl _,fun w F β vs M hv => ?_⟩
 simp only[RelL]at hv
 obtain⟨v0,_,rfl,hv0,u1,_,rfl,hu1,rfl⟩:=hv
 obtain⟨rfl,_⟩:=relC.1 hu1
 simp only[RelA,RelP,List.length_map]at hv0
 obtain⟨a,c,rfl,_,_,hE⟩:=hv0
 have fin:∀q:Nat,∃v F' β',Ending.returned (.tuple #[.int .i64 (xs.countP (· < x):Nat),.bool (xs.contains x)]) = .returned v∧MemOk w (inB β) (· < ([]:List Chunk).length) F' β' (nth []) (w.drewN q)∧RelA (· < ([]:List Chunk).length) (w.drewN q) F' β' (.tup [I .i64 (xs.countP (· < x):Nat),B (xs.contains x)]) v∧(∀b,F b→F' b)∧(∀b,F' b→F b∨w.heap.size≤b∨inB β b)∧∀i bd,i<([]:List Chunk).length → β' i=some bd→∃bs,β i=some ⟨bd.v,bd.b,bd.n,bd.sz,bs⟩:=by
  intro q
  obtain⟨S1,S2⟩:=M.step (w':=w.drewN q) (h':=nth []) (β' := β) (F':=F) (U':=(· < 0)) (fun _=>False) (fun _ _=>rfl) (fun _ _=>rfl) rfl rfl rfl (Nat.le_refl _) (fun _ _ _=>rfl) (fun _ h=>h) (fun _ h=>h)
   (fun b h=>⟨M.fin b h,.inl h⟩) (fun _ _ h=>h.elim) (fun _ _ h=>h.elim) (fun _ _ _ _ _ h=>h.elim) (fun _ _ h=>h.elim)
  refine⟨_,F,β,rfl,S1,?_,fun _ h=>h,fun _ h => .inl h,fun _ _ _ h=>⟨_,h⟩⟩
  simp only[RelA]
  refine⟨_,rfl,?_⟩
  simp[RelL,RelA,RelP,Value.oneCell']
 by_cases h0:xs = []
 ·subst h0
  refine(Any.slices_BinarySearch_int_empty L a c x w).mono ?_
  rintro e w' ⟨rfl,rfl⟩
  exact fin 0
 ·rcases hE with hE|⟨b,o,rfl,_,hE⟩
  ·exact(h0 (by simpa using hE)).elim
  ·have:=Any.slices_BinarySearch_int L b o xs.length c xs x w (Nat.le_refl _) hl (fun j hj => ?_) (by rw[List.take_length];exact hs)
   ·rw[List.take_length]at this
    refine this.mono ?_
    rintro e w' ⟨rfl,q,rfl⟩
    exact fin q
   ·obtain⟨_,hC⟩:=hE.at j [.v (.int .i64 xs[j])] (by simp[hj])
    obtain⟨u,hu,hr⟩:=hC.at 0 _ rfl
    simp only[RelP]at hr
    rw[Nat.mul_one,Nat.add_zero]at hu
    rw[hu,hr.1]
    simp[hj]
end
end Go.Proofs.YtmjbgbmegbkmhaaGreat
namespace Go.Proofs.YtmjbgbmegbkmhaaGreat
set_option linter.all false
open Go.RowKit
section
variable {α : Type} [Inhabited α] (key : α → Int)
def zdk (l:List α) (i j:Nat):List α := (l.set i (l.getD j default)).set j (l.getD i default)
theorem zav (l:List α) (i j:Nat):(zdk l i j).length=l.length:=by simp[zdk]
theorem zcc (l:List α) {i j k:Nat} (hi:i<l.length) (hj:j<l.length) (hk:k<l.length):(zdk l i j).getD k default=if k=j then l.getD i default else if k=i then l.getD j default else l.getD k default:=by
 unfold zdk
 rw[zag _ _ (by simpa using hk),List.getElem_set,List.getElem_set]
 by_cases h1:j=k
 ·rw[if_pos h1,if_pos h1.symm]
 ·rw[if_neg h1,if_neg (Ne.symm h1)]
  by_cases h2:i=k
  ·rw[if_pos h2,if_pos h2.symm]
  ·rw[if_neg h2,if_neg (Ne.symm h2),zag _ _ hk]
theorem mem_getD {l:List α} {x : α} : x∈l↔∃k,k<l.length∧l.getD k default=x:=by
 constructor
 ·intro h
  obtain⟨k,hk,e⟩:=List.getElem_of_mem h
  exact⟨k,hk,by rw[zag _ _ hk];exact e⟩
 ·rintro⟨k,hk,rfl⟩
  exact zbj l k hk
theorem zk6 (l:List α) {i j:Nat} (hi:i<l.length) (hj:j<l.length) (x : α):x∈zdk l i j↔x∈l:=by
 rw[mem_getD,mem_getD,zav]
 constructor
 ·rintro⟨k,hk,e⟩
  rw[zcc l hi hj hk]at e
  split at e
  ·exact⟨i,hi,e⟩
  ·split at e
   ·exact⟨j,hj,e⟩
   ·exact⟨k,hk,e⟩
 ·rintro⟨k,hk,e⟩
  by_cases h1:k=i
  ·subst h1
   refine⟨j,hj,?_⟩
   rw[zcc l hi hj hj,if_pos rfl];exact e
  ·by_cases h2:k=j
   ·subst h2
    refine⟨i,hi,?_⟩
    rw[zcc l hi hj hi]
    by_cases h3:i=k
    ·exact absurd h3.symm h1
    ·rw[if_neg h3,if_pos rfl];exact e
   ·exact⟨k,hk,by rw[zcc l hi hj hk,if_neg h2,if_neg h1];exact e⟩
def par (k:Nat):Nat:=(k-1)/2
theorem zet (j:Nat):((j:Int)-1).tdiv 2=((par j:Nat):Int):=by
 cases j with
 | zero=>rfl
 | succ k =>
  rw[show ((k+1:Nat):Int)-1=(k:Int)from by omega,Int.tdiv_eq_ediv_of_nonneg (by omega)]
  simp[par]
def zm0 (l:List α) (n:Nat):Prop:=∀k,0<k→k<n→key (l.getD (par k) default)≤key (l.getD k default)
def hup (l:List α) (j:Nat):List α := if par j=j∨¬key (l.getD j default)<key (l.getD (par j) default)then l else hup (zdk l (par j) j) (par j)
termination_by j
decreasing_by simp only[par,not_or]at *;omega
theorem ycv (l:List α) (j:Nat):(hup key l j).length=l.length:=by
 induction j using Nat.strongRecOn generalizing l with
 | _ j ih =>
  rw[hup]
  split
  ·rfl
  ·rename_i h
   rw[ih (par j) (by simp only[par,not_or]at *;omega),zav]
theorem ycu (l:List α) (j:Nat) (hj:j<l.length) (x : α):x∈hup key l j↔x∈l:=by
 induction j using Nat.strongRecOn generalizing l with
 | _ j ih =>
  rw[hup]
  split
  ·rfl
  ·rename_i h
   have:par j<j:=by simp only[par,not_or]at *;omega
   rw[ih (par j) this _ (by rw[zav];omega),zk6 _ (by omega) hj]
theorem z7c (l:List α) (j:Nat) (hj:j<l.length) (h1:∀k,0<k→k<l.length→k≠j→key (l.getD (par k) default)≤key (l.getD k default))
 (h2:0<j→∀k,0<k→k<l.length→par k=j→key (l.getD (par j) default)≤key (l.getD k default)):zm0 key (hup key l j) l.length:=by
 induction j using Nat.strongRecOn generalizing l with
 | _ j ih =>
  rw[hup]
  split
  ·rename_i h
   intro k hk hkl
   by_cases e:k=j
   ·subst e
    rcases h with h|h
    ·simp only[par]at h;omega
    ·omega
   ·exact h1 k hk hkl e
  ·rename_i h
   rw[not_or,Decidable.not_not]at h
   obtain⟨e1,e2⟩:=h
   have lt:par j<j:=by simp only[par]at *;omega
   have hi:par j<l.length:=by omega
   have G:∀k,k<l.length→(zdk l (par j) j).getD k default=if k=j then l.getD (par j) default else if k=par j then l.getD j default else l.getD k default:=fun k hk=>zcc l hi hj hk
   have:=ih (par j) lt (zdk l (par j) j) (by rw[zav];exact hi) (fun k hk hkl hne=>by
    rw[zav]at hkl
    rw[G k hkl,G (par k) (by simp only[par]at *;omega)]
    by_cases a:k=j
    ·subst a
     rw[if_neg (by omega),if_pos rfl,if_pos rfl];omega
    ·rw[if_neg a,if_neg hne]
     by_cases b:par k=j
     ·rw[if_pos b]
      exact h2 (by omega) k hk hkl b
     ·rw[if_neg b]
      by_cases c:par k=par j
      ·rw[if_pos c]
       have:=h1 k hk hkl a
       rw[c]at this;omega
      ·rw[if_neg c];exact h1 k hk hkl a) (fun hp k hk hkl hpk=>by
    rw[zav]at hkl
    have q1:par (par j)<par j:=by simp only[par]at *;omega
    have q2:=h1 (par j) hp hi (by omega)
    rw[G k hkl,G _ (by omega),if_neg (by omega),if_neg (by omega)]
    by_cases a:k=j
    ·rw[if_pos a];exact q2
    ·have:k≠par j:=by intro e;rw[e]at hpk;omega
     rw[if_neg a,if_neg this]
     have:=h1 k hk hkl a
     rw[hpk]at this;omega)
   rwa [zav]at this
def kid (l:List α) (i n:Nat):Nat:=if 2*i+2<n∧key (l.getD (2*i+2) default)<key (l.getD (2*i+1) default)then 2*i+2 else 2*i+1
theorem zrp (l:List α) (i n:Nat):i<kid key l i n:=by unfold kid;split<;>omega
theorem z2j (l:List α) (i n:Nat) (h:2*i+1<n):kid key l i n<n:=by unfold kid;split<;>omega
def hdn (l:List α) (i n:Nat):List α := if n≤2*i+1∨¬key (l.getD (kid key l i n) default)<key (l.getD i default)then l else hdn (zdk l i (kid key l i n)) (kid key l i n) n
termination_by n-i
decreasing_by
 rename_i h
 have h1:=zrp key l i n
 rw[not_or]at h
 omega
theorem zo6 (l:List α) (i n:Nat):(hdn key l i n).length=l.length:=by
 induction hm:n-i using Nat.strongRecOn generalizing l i with
 | _ m ih =>
  rw[hdn]
  split
  ·rfl
  ·rename_i h
   have h1:=zrp key l i n
   rw[ih _ (by omega) _ _ rfl,zav]
theorem yc0 (l:List α) (i n:Nat) (hn:n≤l.length) (x : α):x∈hdn key l i n↔x∈l:=by
 induction hm:n-i using Nat.strongRecOn generalizing l i with
 | _ m ih =>
  rw[hdn]
  split
  ·rfl
  ·rename_i h
   have h1:=zrp key l i n
   have h2:=z2j key l i n (by omega)
   rw[ih _ (by omega) _ _ (by rw[zav];exact hn) rfl,zk6 _ (by omega) (by omega)]
theorem ycz (l:List α) (i n k:Nat) (hn:n≤l.length) (hk:n≤k) (hkl:k<l.length):(hdn key l i n).getD k default=l.getD k default:=by
 induction hm:n-i using Nat.strongRecOn generalizing l i with
 | _ m ih =>
  rw[hdn]
  split
  ·rfl
  ·rename_i h
   have h1:=zrp key l i n
   have h2:=z2j key l i n (by omega)
   rw[ih _ (by omega) _ _ (by rw[zav];exact hn) (by rw[zav];exact hkl) rfl,zcc _ (by omega) (by omega) hkl,if_neg (by omega),if_neg (by omega)]
theorem z7d (l:List α) (i n:Nat) (hn:n≤l.length) (h1:∀k,0<k→k<n→par k≠i→key (l.getD (par k) default)≤key (l.getD k default))
 (h2:0<i→∀k,0<k→k<n→par k=i→key (l.getD (par i) default)≤key (l.getD k default)):zm0 key (hdn key l i n) n:=by
 induction hm:n-i using Nat.strongRecOn generalizing l i with
 | _ m ih =>
  have kd:∀k,0<k→k<n→par k=i→key (l.getD (kid key l i n) default)≤key (l.getD k default):=by
   intro k hk hkn hp
   have:k=2*i+1∨k=2*i+2:=by simp only[par]at hp;omega
   unfold kid
   rcases this with e|e
   ·subst e
    split
    ·rename_i h;omega
    ·exact Int.le_refl _
   ·subst e
    split
    ·exact Int.le_refl _
    ·rename_i h
     by_cases h3:key (l.getD (2*i+2) default)<key (l.getD (2*i+1) default)
     ·exact absurd ⟨hkn,h3⟩ h
     ·omega
  rw[hdn]
  split
  ·rename_i h
   intro k hk hkn
   by_cases e:par k=i
   ·rcases h with h|h
    ·simp only[par]at e;omega
    ·have:=kd k hk hkn e
     rw[e];omega
   ·exact h1 k hk hkn e
  ·rename_i h
   rw[not_or,Decidable.not_not]at h
   have g1:=zrp key l i n
   have g2:=z2j key l i n (by omega)
   have gp:par (kid key l i n)=i:=by unfold kid;simp only[par];split<;>omega
   generalize kid key l i n=j at *
   have G:∀k,k<l.length→(zdk l i j).getD k default=if k=j then l.getD i default else if k=i then l.getD j default else l.getD k default:=fun k hk=>zcc l (by omega) (by omega) hk
   refine ih (n-j) (by omega) (zdk l i j) j (by rw[zav];exact hn) (fun k hk hkn hpk => ?_) (fun hj k hk hkn hpk => ?_) rfl
   ·have hp:par k<k:=by simp only[par]at *;omega
    rw[G k (by omega),G (par k) (by omega)]
    by_cases a:k=j
    ·subst a
     rw[if_pos rfl,if_neg (by omega),if_pos gp];omega
    ·rw[if_neg a,if_neg hpk]
     by_cases b:k=i
     ·subst b
      rw[if_pos rfl,if_neg (by omega)]
      have:=h2 hk j (by omega) (by omega) gp
      exact this
     ·rw[if_neg b]
      by_cases c:par k=i
      ·rw[if_pos c];exact kd k hk hkn c
      ·rw[if_neg c];exact h1 k hk hkn c
   ·have hp:par k<k:=by simp only[par]at *;omega
    rw[G k (by omega),if_neg (by omega),if_neg (by omega),gp,G i (by omega),if_neg (by omega),if_pos rfl]
    have:=h1 k hk hkn (by omega)
    rw[hpk]at this;exact this
theorem zo5 {l:List α} {n:Nat} (h:zm0 key l n):∀k,k<n→key (l.getD 0 default)≤key (l.getD k default):=by
 intro k
 induction k using Nat.strongRecOn with
 | _ k ih =>
  intro hk
  rcases Nat.eq_zero_or_pos k with e|e
  ·subst e;exact Int.le_refl _
  ·have:=ih (par k) (by simp only[par];omega) (by simp only[par];omega)
   have:=h k e hk
   omega
def zd4 (l:List α) (x : α):List α := hup key (l ++ [x]) l.length
def zf6 (l:List α):List α := (hdn key (zdk l 0 (l.length-1)) 0 (l.length-1)).take (l.length-1)
theorem zl7 (l:List α) (x : α) (k:Nat) (h:k<l.length):(l ++ [x]).getD k default=l.getD k default:=by
 rw[zag _ _ (by simp;omega),zag _ _ h,List.getElem_append_left h]
theorem zl4 (l:List α) (x : α):(zd4 key l x).length=l.length+1:=by unfold zd4;rw[ycv];simp
theorem zdz (l:List α) (x y : α):y∈zd4 key l x↔y∈l∨y=x:=by
 unfold zd4
 rw[ycu _ _ _ (by simp)];simp
theorem zjj (l:List α) (x : α) (h:zm0 key l l.length):zm0 key (zd4 key l x) (zd4 key l x).length:=by
 rw[zl4]
 have:=z7c key (l ++ [x]) l.length (by simp) (fun k hk hkl hne=>by
  simp only[List.length_append,List.length_cons,List.length_nil]at hkl
  have:par k<k:=by simp only[par]at *;omega
  rw[zl7 _ _ _ (by omega),zl7 _ _ _ (by omega)];exact h k hk (by omega)) (fun _ k hk hkl hp=>by
  simp only[List.length_append,List.length_cons,List.length_nil,par]at *;omega)
 simpa[zd4]using this
theorem zp5 (l:List α) (n k:Nat) (h:k<n):(l.take n).getD k default=l.getD k default:=by
 simp only[List.getD_eq_getElem?_getD,List.getElem?_take,if_pos h]
theorem zgx (l:List α):(zf6 key l).length=l.length-1:=by unfold zf6;rw[List.length_take,zo6,zav];omega
theorem zio (l:List α) (hl:0<l.length) (h:zm0 key l l.length):zm0 key (zf6 key l) (zf6 key l).length:=by
 rw[zgx]
 have:=z7d key (zdk l 0 (l.length-1)) 0 (l.length-1) (by rw[zav];omega) (fun k hk hkn hp=>by
  have q:par k<k:=by simp only[par]at *;omega
  rw[zcc _ (by omega) (by omega) (by omega),zcc _ (by omega) (by omega) (by omega),if_neg (by omega),if_neg (by omega),if_neg (by omega),if_neg (by omega)]
  exact h k hk (by omega)) (fun h0=>absurd h0 (Nat.lt_irrefl _))
 intro k hk hkn
 unfold zf6
 rw[zp5 _ _ _ hkn,zp5 _ _ _ (by simp only[par]at *;omega)]
 exact this k hk hkn
theorem zrv (l:List α) (hl:0<l.length):(hdn key (zdk l 0 (l.length-1)) 0 (l.length-1)).getD (l.length-1) default=l.getD 0 default:=by
 rw[ycz _ _ _ _ _ (by rw[zav];omega) (Nat.le_refl _) (by rw[zav];omega),zcc _ hl (by omega) (by omega),if_pos rfl]
theorem zfy (l:List α) (hl:0<l.length) (x : α):x∈l↔x=l.getD 0 default∨x∈zf6 key l:=by
 have e:hdn key (zdk l 0 (l.length-1)) 0 (l.length-1)=zf6 key l ++ [l.getD 0 default]:=by
  have h1:=zrv key l hl
  have h2:(hdn key (zdk l 0 (l.length-1)) 0 (l.length-1)).length=l.length-1+1:=by rw[zo6,zav];omega
  unfold zf6
  rw[←h1,←zas _ _ (by omega),List.take_of_length_le (by omega)]
 rw[←zk6 l hl (show l.length-1<l.length by omega),←yc0 key _ 0 (l.length-1) (by rw[zav];omega),e]
 simp[or_comm]
end
def Adj (W p n:Nat):Prop:=n+W=p∨(n+1=p∧0<p % W)∨(p+1=n∧0<n % W)∨p+W=n
theorem Adj.symm {W p n:Nat} (h:Adj W p n):Adj W n p:=by
 rcases h with h|⟨h,h'⟩|⟨h,h'⟩|h
 ·exact .inr (.inr (.inr h))
 ·exact .inr (.inr (.inl ⟨h,h'⟩))
 ·exact .inr (.inl ⟨h,h'⟩)
 ·exact .inl h
theorem Adj.ne {W p n:Nat} (hW:0<W) (h:Adj W p n):p≠n:=by
 rcases h with h|⟨h,h'⟩|⟨h,h'⟩|h<;>omega
def zmi (W H p:Nat):List Nat:=(if 0<p/W then [p-W]else [])++(if 0<p % W then [p-1]else [])++(if p % W+1<W then [p+1]else [])++(if p/W+1<H then [p+W]else [])
theorem zu1 {W:Nat} (hW:0<W) (p:Nat):(p+1) % W=if p % W+1=W then 0 else p % W+1:=by
 have h1:=Nat.div_add_mod p W
 have h2:=Nat.mod_lt p hW
 have e:p+1=W*(p/W)+(p % W+1):=by omega
 rw[e,Nat.mul_add_mod]
 split
 ·rename_i h;rw[h,Nat.mod_self]
 ·rename_i h;exact Nat.mod_eq_of_lt (by omega)
theorem znf {W H p n:Nat} (hW:0<W) (hp:p<W*H):n∈zmi W H p↔n<W*H∧Adj W p n:=by
 have h1:=Nat.div_add_mod p W
 have h2:=Nat.mod_lt p hW
 have h3:p/W<H:=by rw[Nat.div_lt_iff_lt_mul hW,Nat.mul_comm];exact hp
 have h4:0<p/W↔W≤p:=by rw[Nat.div_pos_iff];exact⟨fun h=>h.2,fun h=>⟨hW,h⟩⟩
 have h5:p/W+1<H↔p+W<W*H:=by
  have:(p+W)/W=p/W+1:=Nat.add_div_right p hW
  rw[←this,Nat.div_lt_iff_lt_mul hW,Nat.mul_comm]
 have h6:=zu1 hW p
 have h7:p % W+1<W→p+1<W*H:=by
  intro h
  have:W*(p/W)+W≤W*H:=by rw[←Nat.mul_succ];exact Nat.mul_le_mul_left _ h3
  omega
 unfold zmi Adj
 simp only[List.mem_append]
 constructor
 ·rintro (((h|h)|h)|h)
  ·split at h
   ·rename_i g
    simp only[List.mem_singleton]at h
    have:=h4.1 g
    exact⟨by omega,.inl (by omega)⟩
   ·simp at h
  ·split at h
   ·rename_i g
    simp only[List.mem_singleton]at h
    have:0<p:=Nat.pos_of_ne_zero fun e=>by rw[e]at g;simp at g
    exact⟨by omega,.inr (.inl ⟨by omega,g⟩)⟩
   ·simp at h
  ·split at h
   ·rename_i g
    simp only[List.mem_singleton]at h
    rw[if_neg (by omega)]at h6
    have:=h7 g
    exact⟨by omega,.inr (.inr (.inl ⟨by omega,by rw[h,h6];omega⟩))⟩
   ·simp at h
  ·split at h
   ·rename_i g
    simp only[List.mem_singleton]at h
    have:=h5.1 g
    exact⟨by omega,.inr (.inr (.inr (by omega)))⟩
   ·simp at h
 ·rintro⟨hn,h|⟨h,h'⟩|⟨h,h'⟩|h⟩
  ·refine .inl (.inl (.inl ?_))
   rw[if_pos (h4.2 (by omega))];simp;omega
  ·refine .inl (.inl (.inr ?_))
   rw[if_pos h'];simp;omega
  ·refine .inl (.inr ?_)
   rw[if_pos]
   ·simp;omega
   ·rw[←h,h6]at h'
    split at h'
    ·omega
    ·omega
  ·refine .inr ?_
   rw[if_pos (h5.2 (by omega))];simp;omega
def kV (q:Int):Int:=if q=2 then 3 else 2
theorem zzp (q:Int):2≤kV q∧kV q≤3:=by unfold kV;split<;>omega
theorem zn9 {l:List Int} {i:Nat} (v:Int) (p:Nat) (hi:i<l.length):(l.set i v).getD p default=if p=i then v else l.getD p default:=by
 by_cases h:p=i
 ·subst h;rw[if_pos rfl,zag _ _ (by simpa using hi)];simp
 ·rw[if_neg h]
  simp only[List.getD_eq_getElem?_getD,List.getElem?_set,if_neg (Ne.symm h)]
structure Flood (W : Nat) (pl : List Int) (s : List Nat) (far : List Int) : Prop where
 len:far.length=pl.length
 low:∀p,p<pl.length → -1≤far.getD p default
 src:∀p∈s,far.getD p default=0
 why:∀p,p<pl.length→0≤far.getD p default→(p∈s∧far.getD p default=0)∨∃n,n<pl.length∧Adj W p n∧pl.getD p default≠1∧0≤far.getD n default∧far.getD n default+kV (pl.getD p default)≤far.getD p default
 all:∀p n,p<pl.length→n<pl.length→Adj W p n→0≤far.getD p default→pl.getD n default≠1→0≤far.getD n default∧far.getD n default≤far.getD p default+kV (pl.getD n default)
theorem Flood.le {W:Nat} {pl:List Int} {s:List Nat} {f g:List Int} (hf:Flood W pl s f) (hg:Flood W pl s g):∀(N p:Nat),p<pl.length→0≤f.getD p default→f.getD p default≤N→0≤g.getD p default∧g.getD p default≤f.getD p default:=by
 intro N
 induction N using Nat.strongRecOn with
 | _ N ih =>
  intro p hp h0 hN
  rcases hf.why p hp h0 with ⟨h1,h2⟩|⟨n,hn,ha,hr,h3,h4⟩
  ·rw[hg.src p h1];omega
  ·have hk:=zzp (pl.getD p default)
   obtain⟨k,hk2⟩:=Int.eq_ofNat_of_zero_le h3
   have:=ih k (by omega) n hn h3 (by omega)
   have:=hg.all n p hn hp ha.symm this.1 hr
   omega
theorem Flood.uniq {W:Nat} {pl:List Int} {s:List Nat} {f g:List Int} (hf:Flood W pl s f) (hg:Flood W pl s g):f=g:=by
 refine List.ext_getElem (hf.len.trans hg.len.symm) fun p h1 h2 => ?_
 rw[←zag f p h1,←zag g p h2]
 have hp:p<pl.length:=by rw[←hf.len];exact h1
 have l1:=hf.low p hp
 have l2:=hg.low p hp
 by_cases h:0≤f.getD p default
 ·obtain⟨k,hk⟩:=Int.eq_ofNat_of_zero_le h
  have a:=hf.le hg k p hp h (by omega)
  obtain⟨k',hk'⟩:=Int.eq_ofNat_of_zero_le a.1
  have b:=hg.le hf k' p hp a.1 (by omega)
  omega
 ·by_cases h':0≤g.getD p default
  ·obtain⟨k',hk'⟩:=Int.eq_ofNat_of_zero_le h'
   have b:=hg.le hf k' p hp h' (by omega)
   omega
  ·omega
def ziy (g:Int→Nat) (l:List Int):Nat:=(l.map g).sum
theorem zgq (g:Int→Nat):∀(l:List Int) (i:Nat) (v:Int),i<l.length→ziy g (l.set i v)+g (l.getD i default)=ziy g l+g v
 | [],i,v,h=>by simp at h
 | a::r,0,v,_=>by simp[ziy];omega
 | a::r,i+1,v,h=>by
  have:=zgq g r i v (by simpa using h)
  simp only[ziy,List.set_cons_succ,List.map_cons,List.sum_cons,List.getD_cons_succ]at this ⊢
  omega
theorem zhi (g:Int→Nat) (b:Nat) (hg:∀x,g x≤b):∀l:List Int,ziy g l≤b*l.length
 | []=>by simp[ziy]
 | a::r=>by
  have:=zhi g b hg r
  have:=hg a
  simp only[ziy,List.map_cons,List.sum_cons,List.length_cons,Nat.mul_add]at *
  omega
def ze9 (x:Int):Nat:=if 0≤x then 1 else 0
def z4u (x:Int):Nat:=if 0≤x then x.toNat else 5000
theorem zhl (x:Int):ze9 x≤1:=by unfold ze9;split<;>omega
theorem zwq (n p:Nat) (h:p<n):(List.replicate n (-1:Int)).getD p default = -1:=by rw[zag _ _ (by simpa using h)];simp
structure Itm where
 place:Int
 far:Int
 deriving DecidableEq, Inhabited
structure Dj (W : Nat) (pl : List Int) (s : List Nat) (far : List Int) (q : List Itm) (done : Nat → Nat → Prop) : Prop where
 len:far.length=pl.length
 low:∀p,p<pl.length → -1≤far.getD p default
 heap:zm0 Itm.far q q.length
 itm:∀x∈q,∃p:Nat,x.place=(p:Int)∧p<pl.length∧0≤x.far∧x.far≤3*ziy ze9 far∧(∀m,m<pl.length→far.getD m default≤x.far)∧((p∈s∧x.far=0)∨∃n,n<pl.length∧Adj W p n∧pl.getD p default≠1∧0≤far.getD n default∧x.far=far.getD n default+kV (pl.getD p default))
 src:∀p∈s,far.getD p default=0∨(far.getD p default<0∧∃x∈q,x.place=(p:Int)∧x.far=0)
 why:∀p,p<pl.length→0≤far.getD p default→(p∈s∧far.getD p default=0)∨∃n,n<pl.length∧Adj W p n∧pl.getD p default≠1∧0≤far.getD n default∧far.getD n default+kV (pl.getD p default)≤far.getD p default
 all:∀p n,p<pl.length→n<pl.length→Adj W p n→done p n→0≤far.getD p default→pl.getD n default≠1 →
  (0≤far.getD n default∧far.getD n default≤far.getD p default+kV (pl.getD n default))∨(far.getD n default<0∧∃x∈q,x.place=(n:Int)∧x.far≤far.getD p default+kV (pl.getD n default))
section
variable {W : Nat} {pl : List Int} {s : List Nat} {far : List Int} {q : List Itm} {done : Nat → Nat → Prop}
theorem Dj.flood (h:Dj W pl s far [] fun _ _=>True):Flood W pl s far:=by
 refine⟨h.len,h.low,fun p hp => ?_,h.why,fun p n hp hn ha h0 hr => ?_⟩
 ·rcases h.src p hp with h|⟨_,x,hx,_⟩
  ·exact h
  ·simp at hx
 ·rcases h.all p n hp hn ha trivial h0 hr with h|⟨_,x,hx,_⟩
  ·exact h
  ·simp at hx
theorem Dj.skip (h:Dj W pl s far q done) (hq:0<q.length) {p:Nat} (hp:(q.getD 0 default).place=(p:Int)) (h0:0≤far.getD p default):Dj W pl s far (zf6 Itm.far q) done:=by
 have M:=zfy Itm.far q hq
 refine⟨h.len,h.low,zio _ _ hq h.heap,fun x hx=>h.itm x ((M x).2 (.inr hx)),fun p' hp' => ?_,h.why,fun p' n h1 h2 h3 h4 h5 h6 => ?_⟩
 ·rcases h.src p' hp' with h7|⟨h7,x,hx,h8,h9⟩
  ·exact .inl h7
  ·refine .inr ⟨h7,x,?_,h8,h9⟩
   rcases (M x).1 hx with e|e
   ·subst e;rw[hp]at h8;have:p=p':=by omega
    subst this;omega
   ·exact e
 ·rcases h.all p' n h1 h2 h3 h4 h5 h6 with h7|⟨h7,x,hx,h8,h9⟩
  ·exact .inl h7
  ·refine .inr ⟨h7,x,?_,h8,h9⟩
   rcases (M x).1 hx with e|e
   ·subst e;rw[hp]at h8;have:p=n:=by omega
    subst this;omega
   ·exact e
theorem Dj.close (hW:0<W) (h:Dj W pl s far q fun _ _=>True) (hq:0<q.length) {p:Nat} (hp:(q.getD 0 default).place=(p:Int)) (h0:far.getD p default<0) :
 p<pl.length∧Dj W pl s (far.set p (q.getD 0 default).far) (zf6 Itm.far q) (fun a _=>a≠p):=by
 have M:=zfy Itm.far q hq
 have mem0:q.getD 0 default∈q:=(M _).2 (.inl rfl)
 obtain⟨p',e1,hpl,j0,jb,jm,jw⟩:=h.itm _ mem0
 obtain rfl:p'=p:=by omega
 have zim:∀x∈q,(q.getD 0 default).far≤x.far:=fun x hx=>by
  obtain⟨k,hk,rfl⟩:=mem_getD.1 hx
  exact zo5 _ h.heap k hk
 have hp'l:p'<far.length:=by rw[h.len];exact hpl
 generalize (q.getD 0 default).far=d at *
 have G:=fun k=>zn9 d k hp'l
 have cnt:ziy ze9 (far.set p' d)=ziy ze9 far+1:=by
  have:=zgq ze9 far p' d hp'l
  simp only[ze9,if_neg (show ¬0≤far.getD p' default by omega),if_pos j0]at this;simpa[ze9]using this
 refine⟨hpl,by rw[List.length_set];exact h.len,fun k hk => ?_,zio _ _ hq h.heap,fun x hx => ?_,fun k hk => ?_,fun k hk hk0 => ?_,fun a n h1 h2 h3 h4 h5 h6 => ?_⟩
 ·rw[G];split
  ·omega
  ·exact h.low k hk
 ·have hx':=(M x).2 (.inr hx)
  obtain⟨k,e2,hk,l0,lb,lm,lw⟩:=h.itm x hx'
  refine⟨k,e2,hk,l0,by rw[cnt];omega,fun m hm => ?_,?_⟩
  ·rw[G];split
   ·exact zim x hx'
   ·exact lm m hm
  ·rcases lw with lw|⟨n,n1,n2,n3,n4,n5⟩
   ·exact .inl lw
   ·refine .inr ⟨n,n1,n2,n3,?_⟩
    rw[G,if_neg (by intro e;subst e;omega)];exact⟨n4,n5⟩
 ·rw[G]
  rcases h.src k hk with h7|⟨h7,x,hx,h8,h9⟩
  ·rw[if_neg (by intro e;subst e;omega)];exact .inl h7
  ·by_cases e:k=p'
   ·subst e
    rw[if_pos rfl]
    have:=zim x hx
    exact .inl (by omega)
   ·rw[if_neg e]
    refine .inr ⟨h7,x,?_,h8,h9⟩
    rcases (M x).1 hx with e3|e3
    ·subst e3;omega
    ·exact e3
 ·rw[G]at hk0 ⊢
  by_cases e:k=p'
  ·subst e
   rw[if_pos rfl]
   rcases jw with jw|⟨n,n1,n2,n3,n4,n5⟩
   ·exact .inl jw
   ·refine .inr ⟨n,n1,n2,n3,?_⟩
    rw[G,if_neg (by intro e;subst e;omega)];omega
  ·rw[if_neg e]at hk0 ⊢
   rcases h.why k hk hk0 with jw|⟨n,n1,n2,n3,n4,n5⟩
   ·exact .inl jw
   ·refine .inr ⟨n,n1,n2,n3,?_⟩
    rw[G,if_neg (by intro e;subst e;omega)];exact⟨n4,n5⟩
 ·rw[G,if_neg h4]at h5
  rw[G,G,if_neg h4]
  rcases h.all a n h1 h2 h3 trivial h5 h6 with h7|⟨h7,x,hx,h8,h9⟩
  ·rw[if_neg (by intro e;subst e;omega)];exact .inl h7
  ·by_cases e:n=p'
   ·subst e
    rw[if_pos rfl]
    have:=zim x hx
    exact .inl ⟨j0,by omega⟩
   ·rw[if_neg e]
    refine .inr ⟨h7,x,?_,h8,h9⟩
    rcases (M x).1 hx with e3|e3
    ·subst e3;omega
    ·exact e3
theorem Dj.look {p n:Nat} (h:Dj W pl s far q done) (hn:n<pl.length) (hp:p<pl.length) (ha:Adj W p n) (h0:0≤far.getD p default) (top:∀m,m<pl.length→far.getD m default≤far.getD p default) (hb:far.getD p default+3≤3*ziy ze9 far) (done':Nat→Nat→Prop) (hd:∀a b,done' a b→done a b∨(a=p∧b=n))
 {q':List Itm} (hq':((pl.getD n default=1∨0≤far.getD n default)∧q'=q)∨(pl.getD n default≠1∧far.getD n default<0∧q'=zd4 Itm.far q ⟨(n:Int),far.getD p default+kV (pl.getD n default)⟩)):Dj W pl s far q' done':=by
 have sub:∀x∈q,x∈q':=fun x hx=>by
  rcases hq' with ⟨_,rfl⟩|⟨_,_,rfl⟩
  ·exact hx
  ·exact(zdz _ _ _ _).2 (.inl hx)
 refine⟨h.len,h.low,?_,fun x hx => ?_,fun k hk => ?_,h.why,fun a b h1 h2 h3 h4 h5 h6 => ?_⟩
 ·rcases hq' with ⟨_,rfl⟩|⟨_,_,rfl⟩
  ·exact h.heap
  ·exact zjj _ _ _ h.heap
 ·rcases hq' with ⟨_,rfl⟩|⟨g1,g2,rfl⟩
  ·exact h.itm x hx
  ·rcases (zdz _ _ _ _).1 hx with e|e
   ·exact h.itm x e
   ·subst e
    have hk:=zzp (pl.getD n default)
    exact⟨n,rfl,hn,by simp only;omega,by simp only;omega,fun m hm=>by have:=top m hm;simp only;omega,.inr ⟨p,hp,ha.symm,g1,h0,rfl⟩⟩
 ·rcases h.src k hk with h7|⟨h7,x,hx,h8,h9⟩
  ·exact .inl h7
  ·exact .inr ⟨h7,x,sub x hx,h8,h9⟩
 ·rcases hd a b h4 with h4|⟨rfl,rfl⟩
  ·rcases h.all a b h1 h2 h3 h4 h5 h6 with h7|⟨h7,x,hx,h8,h9⟩
   ·exact .inl h7
   ·exact .inr ⟨h7,x,sub x hx,h8,h9⟩
  ·rcases hq' with ⟨g|g,rfl⟩|⟨g1,g2,rfl⟩
   ·exact absurd g h6
   ·have hk:=zzp (pl.getD b default)
    have:=top b hn
    exact .inl ⟨g,by omega⟩
   ·exact .inr ⟨g2,_,(zdz _ _ _ _).2 (.inr rfl),rfl,Int.le_refl _⟩
theorem Dj.start (hs:∀p∈s,p<pl.length) (hh:zm0 Itm.far q q.length) (h1:∀x∈q,∃p∈s,x.place=(p:Int)∧x.far=0) (h2:∀p∈s,∃x∈q,x.place=(p:Int)∧x.far=0):Dj W pl s (List.replicate pl.length (-1)) q fun _ _=>True:=by
 have G:=fun p hp=>zwq pl.length p hp
 refine⟨by simp,fun p hp=>by rw[G p hp];omega,hh,fun x hx => ?_,fun p hp => .inr ⟨by rw[G p (hs p hp)];omega,h2 p hp⟩,fun p hp h0 => ?_,fun p n hp _ _ _ h0 _ => ?_⟩
 ·obtain⟨p,hp,e1,e2⟩:=h1 x hx
  exact⟨p,e1,hs p hp,by omega,by omega,fun m hm=>by rw[G m hm];omega,.inl ⟨hp,e2⟩⟩
 ·rw[G p hp]at h0;omega
 ·rw[G p hp]at h0;omega
end
structure Bf (W : Nat) (pl : List Int) (s : List Nat) (far : List Int) : Prop where
 len:far.length=pl.length
 low:∀p,p<pl.length → -1≤far.getD p default
 src:∀p∈s,far.getD p default=0
 why:∀p,p<pl.length→0≤far.getD p default→(p∈s∧far.getD p default=0)∨∃n,n<pl.length∧Adj W p n∧pl.getD p default≠1∧0≤far.getD n default∧far.getD n default+kV (pl.getD p default)≤far.getD p default
 top:∀p,p<pl.length→far.getD p default≤3*ziy ze9 far
def yih (pl far:List Int) (i n:Nat):Prop:=pl.getD i default=1∨far.getD n default<0∨(0≤far.getD i default∧far.getD i default≤far.getD n default+kV (pl.getD i default))
section
variable {W : Nat} {pl : List Int} {s : List Nat} {far : List Int}
theorem Bf.flood (h:Bf W pl s far) (hf:∀i n,i<pl.length→n<pl.length→Adj W i n→yih pl far i n):Flood W pl s far:=by
 refine⟨h.len,h.low,h.src,h.why,fun p n hp hn ha h0 hr => ?_⟩
 rcases hf n p hn hp ha.symm with h1|h1|h1
 ·exact absurd h1 hr
 ·omega
 ·exact h1
theorem Bf.better (h:Bf W pl s far) (hl:pl.length≤1600) {i n:Nat} (hi:i<pl.length) (hn:n<pl.length) (ha:Adj W i n) (hne:i≠n) (hf:¬yih pl far i n) :
 Bf W pl s (far.set i (far.getD n default+kV (pl.getD i default)))∧ziy z4u (far.set i (far.getD n default+kV (pl.getD i default)))<ziy z4u far:=by
 unfold yih at hf
 rw[not_or,not_or]at hf
 obtain⟨f1,f2,f3⟩:=hf
 have hk:=zzp (pl.getD i default)
 have hil:i<far.length:=by rw[h.len];exact hi
 have top:=h.top n hn
 have c1:=zhi ze9 1 zhl far
 rw[h.len]at c1
 obtain⟨d,hd⟩:∃d,d=far.getD n default+kV (pl.getD i default):=⟨_,rfl⟩
 rw[←hd]
 have G:=fun k=>zn9 d k hil
 have cnt:=zgq ze9 far i d hil
 have bg:=zgq z4u far i d hil
 have o1:ze9 d=1:=by unfold ze9;rw[if_pos (by omega)]
 have b1:z4u d=d.toNat:=by unfold z4u;rw[if_pos (by omega)]
 rw[o1]at cnt
 rw[b1]at bg
 have o2:=zhl (far.getD i default)
 refine⟨⟨by rw[List.length_set];exact h.len,fun k hk2 => ?_,fun k hk2 => ?_,fun k hk2 hk0 => ?_,fun k hk2 => ?_⟩,?_⟩
 ·rw[G];split
  ·omega
  ·exact h.low k hk2
 ·rw[G,if_neg]
  ·exact h.src k hk2
  ·intro e;subst e
   have:=h.src _ hk2
   exact f3 ⟨by omega,by omega⟩
 ·rw[G]at hk0 ⊢
  by_cases e:k=i
  ·subst e
   rw[if_pos rfl]
   refine .inr ⟨n,hn,ha,f1,?_⟩
   rw[G,if_neg (Ne.symm hne)];omega
  ·rw[if_neg e]at hk0 ⊢
   rcases h.why k hk2 hk0 with jw|⟨m,n1,n2,n3,n4,n5⟩
   ·exact .inl jw
   ·refine .inr ⟨m,n1,n2,n3,?_⟩
    rw[G]
    split
    ·rename_i e2;subst e2;omega
    ·exact⟨n4,n5⟩
 ·rw[G];split
  ·by_cases hneg:0≤far.getD i default
   ·have:ze9 (far.getD i default)=1:=by unfold ze9;rw[if_pos hneg]
    have:=h.top i hi
    omega
   ·have:ze9 (far.getD i default)=0:=by unfold ze9;rw[if_neg hneg]
    omega
  ·have:=h.top k hk2;omega
 ·by_cases hneg:0≤far.getD i default
  ·have:z4u (far.getD i default)=(far.getD i default).toNat:=by unfold z4u;rw[if_pos hneg]
   omega
  ·have:z4u (far.getD i default)=5000:=by unfold z4u;rw[if_neg hneg]
   omega
end
structure Nod where
 c:Cel
 far:Int
 all:Int
 deriving DecidableEq, Inhabited
def zd8 (W p:Nat):Cel:=⟨((p % W:Nat):Int),((p/W:Nat):Int)⟩
theorem zee {W p n:Nat} (h:zd8 W p=zd8 W n):p=n:=by
 unfold zd8 at h
 simp only[Cel.mk.injEq]at h
 have h1:=Nat.div_add_mod p W
 have h2:=Nat.div_add_mod n W
 have e1:p % W=n % W:=by omega
 have e2:p/W=n/W:=by omega
 rw[←h1,←h2,e1,e2]
def yh8 (W L:Nat) (hh:Nat→Int):Prop:=∀p n,p<L→n<L→Adj W p n→hh p≤hh n+2
structure As (W : Nat) (pl : List Int) (a : Nat) (hh : Nat → Int) (far : List Int) (q : List Nod) (done : Nat → Nat → Prop) : Prop where
 len:far.length=pl.length
 low:∀p,p<pl.length → -1≤far.getD p default
 heap:zm0 Nod.all q q.length
 itm:∀x∈q,∃p:Nat,x.c=zd8 W p∧p<pl.length∧0≤x.far∧x.far≤3*ziy ze9 far∧x.all=x.far+hh p∧(∀m,m<pl.length→0≤far.getD m default→far.getD m default+hh m≤x.all)∧((p=a∧x.far=0)∨∃n,n<pl.length∧Adj W p n∧pl.getD p default≠1∧0≤far.getD n default∧x.far=far.getD n default+kV (pl.getD p default))
 src:far.getD a default=0∨(far.getD a default<0∧∃x∈q,x.c=zd8 W a∧x.far=0)
 why:∀p,p<pl.length→0≤far.getD p default→(p=a∧far.getD p default=0)∨∃n,n<pl.length∧Adj W p n∧pl.getD p default≠1∧0≤far.getD n default∧far.getD p default=far.getD n default+kV (pl.getD p default)
 top:∀p,p<pl.length→far.getD p default≤3*ziy ze9 far
 all:∀p n,p<pl.length→n<pl.length→Adj W p n→done p n→0≤far.getD p default→pl.getD n default≠1 →
  (0≤far.getD n default∧far.getD n default≤far.getD p default+kV (pl.getD n default))∨(far.getD n default<0∧∃x∈q,x.c=zd8 W n∧x.far≤far.getD p default+kV (pl.getD n default))
section
variable {W : Nat} {pl : List Int} {a : Nat} {hh : Nat → Int} {far : List Int} {q : List Nod} {done : Nat → Nat → Prop}
theorem As.skip (h:As W pl a hh far q done) (hq:0<q.length) {p:Nat} (hp:(q.getD 0 default).c=zd8 W p) (h0:0≤far.getD p default):As W pl a hh far (zf6 Nod.all q) done:=by
 have M:=zfy Nod.all q hq
 refine⟨h.len,h.low,zio _ _ hq h.heap,fun x hx=>h.itm x ((M x).2 (.inr hx)),?_,h.why,h.top,fun p' n h1 h2 h3 h4 h5 h6 => ?_⟩
 ·rcases h.src with h7|⟨h7,x,hx,h8,h9⟩
  ·exact .inl h7
  ·refine .inr ⟨h7,x,?_,h8,h9⟩
   rcases (M x).1 hx with e|e
   ·subst e;rw[hp]at h8;have:=zee h8;subst this;omega
   ·exact e
 ·rcases h.all p' n h1 h2 h3 h4 h5 h6 with h7|⟨h7,x,hx,h8,h9⟩
  ·exact .inl h7
  ·refine .inr ⟨h7,x,?_,h8,h9⟩
   rcases (M x).1 hx with e|e
   ·subst e;rw[hp]at h8;have:=zee h8;subst this;omega
   ·exact e
theorem As.close (hW:0<W) (h:As W pl a hh far q fun _ _=>True) (hq:0<q.length) {p:Nat} (hp:(q.getD 0 default).c=zd8 W p) (h0:far.getD p default<0) :
 p<pl.length∧As W pl a hh (far.set p (q.getD 0 default).far) (zf6 Nod.all q) (fun x _=>x≠p):=by
 have M:=zfy Nod.all q hq
 have mem0:q.getD 0 default∈q:=(M _).2 (.inl rfl)
 obtain⟨p',e1,hpl,j0,jb,ja,jm,jw⟩:=h.itm _ mem0
 obtain rfl:p=p':=zee (hp.symm.trans e1)
 have zim:∀x∈q,(q.getD 0 default).all≤x.all:=fun x hx=>by
  obtain⟨k,hk,rfl⟩:=mem_getD.1 hx
  exact zo5 _ h.heap k hk
 have hpL:p<far.length:=by rw[h.len];exact hpl
 generalize q.getD 0 default=x0 at *
 obtain⟨c0,d,al⟩:=x0
 simp only at *
 have G:=fun k=>zn9 d k hpL
 have cnt:ziy ze9 (far.set p d)=ziy ze9 far+1:=by
  have:=zgq ze9 far p d hpL
  simp only[ze9,if_neg (show ¬0≤far.getD p default by omega),if_pos j0]at this;simpa[ze9]using this
 refine⟨hpl,by rw[List.length_set];exact h.len,fun k hk => ?_,zio _ _ hq h.heap,fun x hx => ?_,?_,fun k hk hk0 => ?_,fun k hk => ?_,fun u n h1 h2 h3 h4 h5 h6 => ?_⟩
 ·rw[G];split
  ·omega
  ·exact h.low k hk
 ·have hx':=(M x).2 (.inr hx)
  obtain⟨k,e2,hk,l0,lb,la,lm,lw⟩:=h.itm x hx'
  refine⟨k,e2,hk,l0,by rw[cnt];omega,la,fun m hm hm0 => ?_,?_⟩
  ·rw[G]at hm0 ⊢;split
   ·rename_i e;subst e;have:=zim x hx';omega
   ·rename_i e;rw[if_neg e]at hm0;exact lm m hm hm0
  ·rcases lw with lw|⟨n,n1,n2,n3,n4,n5⟩
   ·exact .inl lw
   ·refine .inr ⟨n,n1,n2,n3,?_⟩
    rw[G,if_neg (by intro e;subst e;omega)];exact⟨n4,n5⟩
 ·rw[G]
  rcases h.src with h7|⟨h7,x,hx,h8,h9⟩
  ·rw[if_neg (by intro e;subst e;omega)];exact .inl h7
  ·by_cases e:a=p
   ·subst e
    rw[if_pos rfl]
    have:=zim x hx
    obtain⟨k,e2,_,_,_,la,_,_⟩:=h.itm x hx
    have:=zee (e2.symm.trans h8)
    subst this
    exact .inl (by omega)
   ·rw[if_neg e]
    refine .inr ⟨h7,x,?_,h8,h9⟩
    rcases (M x).1 hx with e3|e3
    ·subst e3;exact absurd (zee (h8.symm.trans hp)) e
    ·exact e3
 ·rw[G]at hk0 ⊢
  by_cases e:k=p
  ·subst e
   rw[if_pos rfl]
   rcases jw with jw|⟨n,n1,n2,n3,n4,n5⟩
   ·exact .inl jw
   ·refine .inr ⟨n,n1,n2,n3,?_⟩
    rw[G,if_neg (by intro e;subst e;omega)];omega
  ·rw[if_neg e]at hk0 ⊢
   rcases h.why k hk hk0 with jw|⟨n,n1,n2,n3,n4,n5⟩
   ·exact .inl jw
   ·refine .inr ⟨n,n1,n2,n3,?_⟩
    rw[G,if_neg (by intro e;subst e;omega)];exact⟨n4,n5⟩
 ·rw[G,cnt];split
  ·omega
  ·have:=h.top k hk;omega
 ·rw[G,if_neg h4]at h5
  rw[G,G,if_neg h4]
  rcases h.all u n h1 h2 h3 trivial h5 h6 with h7|⟨h7,x,hx,h8,h9⟩
  ·rw[if_neg (by intro e;subst e;omega)];exact .inl h7
  ·by_cases e:n=p
   ·subst e
    rw[if_pos rfl]
    have:=zim x hx
    obtain⟨k,e2,_,_,_,la,_,_⟩:=h.itm x hx
    have:=zee (e2.symm.trans h8)
    subst this
    exact .inl ⟨j0,by omega⟩
   ·rw[if_neg e]
    refine .inr ⟨h7,x,?_,h8,h9⟩
    rcases (M x).1 hx with e3|e3
    ·subst e3;exact absurd (zee (h8.symm.trans hp)) e
    ·exact e3
theorem As.look (hc:yh8 W pl.length hh) {p n:Nat} (h:As W pl a hh far q done) (hn:n<pl.length) (hp:p<pl.length) (ha:Adj W p n) (h0:0≤far.getD p default) (top:∀m,m<pl.length→0≤far.getD m default→far.getD m default+hh m≤far.getD p default+hh p) (hb:far.getD p default+3≤3*ziy ze9 far) (done':Nat→Nat→Prop) (hd:∀x y,done' x y→done x y∨(x=p∧y=n))
 {q':List Nod} (hq':((pl.getD n default=1∨0≤far.getD n default)∧q'=q)∨(pl.getD n default≠1∧far.getD n default<0∧q'=zd4 Nod.all q ⟨zd8 W n,far.getD p default+kV (pl.getD n default),far.getD p default+kV (pl.getD n default)+hh n⟩)):As W pl a hh far q' done':=by
 have hcn:=hc p n hp hn ha
 have sub:∀x∈q,x∈q':=fun x hx=>by
  rcases hq' with ⟨_,rfl⟩|⟨_,_,rfl⟩
  ·exact hx
  ·exact(zdz _ _ _ _).2 (.inl hx)
 refine⟨h.len,h.low,?_,fun x hx => ?_,?_,h.why,h.top,fun u b h1 h2 h3 h4 h5 h6 => ?_⟩
 ·rcases hq' with ⟨_,rfl⟩|⟨_,_,rfl⟩
  ·exact h.heap
  ·exact zjj _ _ _ h.heap
 ·rcases hq' with ⟨_,rfl⟩|⟨g1,g2,rfl⟩
  ·exact h.itm x hx
  ·rcases (zdz _ _ _ _).1 hx with e|e
   ·exact h.itm x e
   ·subst e
    have hk:=zzp (pl.getD n default)
    exact⟨n,rfl,hn,by simp only;omega,by simp only;omega,rfl,fun m hm hm0=>by have:=top m hm hm0;simp only;omega,.inr ⟨p,hp,ha.symm,g1,h0,rfl⟩⟩
 ·rcases h.src with h7|⟨h7,x,hx,h8,h9⟩
  ·exact .inl h7
  ·exact .inr ⟨h7,x,sub x hx,h8,h9⟩
 ·rcases hd u b h4 with h4|⟨rfl,rfl⟩
  ·rcases h.all u b h1 h2 h3 h4 h5 h6 with h7|⟨h7,x,hx,h8,h9⟩
   ·exact .inl h7
   ·exact .inr ⟨h7,x,sub x hx,h8,h9⟩
  ·rcases hq' with ⟨g|g,rfl⟩|⟨g1,g2,rfl⟩
   ·exact absurd g h6
   ·have hk:=zzp (pl.getD b default)
    have:=top b hn g
    have:=hc u b hp hn ha
    exact .inl ⟨g,by omega⟩
   ·exact .inr ⟨g2,_,(zdz _ _ _ _).2 (.inr rfl),rfl,Int.le_refl _⟩
theorem As.start (ha:a<pl.length):As W pl a hh (List.replicate pl.length (-1)) (zd4 Nod.all [] ⟨zd8 W a,0,0+hh a⟩) fun _ _=>True:=by
 have G:=fun p hp=>zwq pl.length p hp
 refine⟨by simp,fun p hp=>by rw[G p hp];omega,zjj _ _ _ (fun k h1 h2=>absurd h2 (Nat.not_lt_zero _)),fun x hx => ?_,.inr ⟨by rw[G a ha];omega,_,(zdz _ _ _ _).2 (.inr rfl),rfl,rfl⟩,fun p hp h0 => ?_,fun p hp=>by rw[G p hp];omega,fun p n hp _ _ _ h0 _ => ?_⟩
 ·rcases (zdz _ _ _ _).1 hx with e|e
  ·simp at e
  ·subst e
   exact⟨a,rfl,ha,Int.le_refl _,by simp only;omega,rfl,fun m hm h0=>by rw[G m hm]at h0;omega,.inl ⟨rfl,rfl⟩⟩
 ·rw[G p hp]at h0;omega
 ·rw[G p hp]at h0;omega
variable {F : List Int}
theorem As.up (h:As W pl a hh far q done) (hF:Flood W pl [a] F):∀(N p:Nat),p<pl.length→0≤far.getD p default→far.getD p default≤N→0≤F.getD p default∧F.getD p default≤far.getD p default:=by
 intro N
 induction N using Nat.strongRecOn with
 | _ N ih =>
  intro p hp h0 hN
  rcases h.why p hp h0 with ⟨h1,h2⟩|⟨n,hn,ha,hr,h3,h4⟩
  ·subst h1;rw[hF.src p (by simp)];omega
  ·have hk:=zzp (pl.getD p default)
   obtain⟨k,hk2⟩:=Int.eq_ofNat_of_zero_le h3
   have:=ih k (by omega) n hn h3 (by omega)
   have:=hF.all n p hn hp ha.symm this.1 hr
   omega
theorem As.down (hc:yh8 W pl.length hh) (h:As W pl a hh far q fun _ _=>True) (ha:a<pl.length) (hF:Flood W pl [a] F):∀(N p:Nat),p<pl.length→0≤F.getD p default→F.getD p default≤N →
 (0≤far.getD p default∧far.getD p default≤F.getD p default)∨∃x∈q,x.all≤F.getD p default+hh p:=by
 intro N
 induction N using Nat.strongRecOn with
 | _ N ih =>
  intro p hp h0 hN
  have itm:∀x∈q,x.c=zd8 W p→x.all=x.far+hh p:=fun x hx e=>by
   obtain⟨k,e2,_,_,_,la,_,_⟩:=h.itm x hx
   have:=zee (e2.symm.trans e)
   subst this;exact la
  rcases hF.why p hp h0 with ⟨h1,h2⟩|⟨n,hn,hadj,hr,h3,h4⟩
  ·obtain rfl:p=a:=by simpa using h1
   rcases h.src with h7|⟨_,x,hx,h8,h9⟩
   ·exact .inl (by omega)
   ·exact .inr ⟨x,hx,by rw[itm x hx h8];omega⟩
  ·have hk:=zzp (pl.getD p default)
   obtain⟨k,hk2⟩:=Int.eq_ofNat_of_zero_le h3
   rcases ih k (by omega) n hn h3 (by omega)with ⟨g1,g2⟩|⟨x,hx,hxa⟩
   ·rcases h.all n p hn hp hadj.symm trivial g1 hr with g3|⟨_,x,hx,e,g4⟩
    ·exact .inl (by omega)
    ·exact .inr ⟨x,hx,by rw[itm x hx e];omega⟩
   ·have:=hc n p hn hp hadj.symm
    exact .inr ⟨x,hx,by omega⟩
theorem As.same (hc:yh8 W pl.length hh) (h:As W pl a hh far q fun _ _=>True) (ha:a<pl.length) (hF:Flood W pl [a] F) {p:Nat} (hp:p<pl.length) (h0:0≤far.getD p default):far.getD p default=F.getD p default:=by
 obtain⟨N,hN⟩:=Int.eq_ofNat_of_zero_le h0
 have h1:=h.up hF N p hp h0 (by omega)
 obtain⟨M,hM⟩:=Int.eq_ofNat_of_zero_le h1.1
 rcases h.down hc ha hF M p hp h1.1 (by omega)with h2|⟨x,hx,hxa⟩
 ·omega
 ·obtain⟨k,_,_,_,_,_,lm,_⟩:=h.itm x hx
  have:=lm p hp h0
  omega
theorem As.known (hc:yh8 W pl.length hh) (h:As W pl a hh far q fun _ _=>True) (ha:a<pl.length) (hF:Flood W pl [a] F) {p:Nat} (hp:p<pl.length) (h0:0≤F.getD p default) (hout:∀x∈q,¬x.all≤F.getD p default+hh p):far.getD p default=F.getD p default:=by
 obtain⟨M,hM⟩:=Int.eq_ofNat_of_zero_le h0
 rcases h.down hc ha hF M p hp h0 (by omega)with h2|⟨x,hx,hxa⟩
 ·exact h.same hc ha hF hp h2.1
 ·exact absurd hxa (hout x hx)
end
theorem zt4 {W:Nat} {pl:List Int} {s:List Nat} (hW:0<W) (hl:pl.length≤1600):∀(N:Nat) (far:List Int),ziy z4u far≤N→Bf W pl s far→∃F,Flood W pl s F:=by
 intro N
 induction N using Nat.strongRecOn with
 | _ N ih =>
  intro far hN hB
  by_cases hf:∀i n,i<pl.length→n<pl.length→Adj W i n→yih pl far i n
  ·exact⟨far,hB.flood hf⟩
  ·simp only[Classical.not_forall]at hf
   obtain⟨i,n,hi,hn,ha,hnf⟩:=hf
   obtain⟨b1,b2⟩:=hB.better hl hi hn ha (Adj.ne hW ha) hnf
   exact ih _ (by omega) _ (Nat.le_refl _) b1
theorem z7m {W:Nat} {pl:List Int} {s:List Nat} (hW:0<W) (hl:pl.length≤1600) (hs:∀p∈s,p<pl.length):∃F,Flood W pl s F:=by
 have G:∀p,p<pl.length→((List.range pl.length).map fun p=>if p∈s then (0:Int)else -1).getD p default=if p∈s then 0 else -1:=fun p hp=>by rw[zag _ _ (by simpa using hp)];simp
 refine zt4 hW hl _ ((List.range pl.length).map fun p=>if p∈s then (0:Int)else -1) (Nat.le_refl _) ⟨by simp,fun p hp => ?_,fun p hp => ?_,fun p hp h0 => ?_,fun p hp => ?_⟩
 ·rw[G p hp];split<;>omega
 ·rw[G p (hs p hp),if_pos hp]
 ·rw[G p hp]at h0 ⊢
  split at h0
  ·rename_i h;rw[if_pos h];exact .inl ⟨h,rfl⟩
  ·omega
 ·rw[G p hp];split<;>omega
end Go.Proofs.YtmjbgbmegbkmhaaGreat
namespace Go.Proofs.YtmjbgbmegbkmhaaGreat
set_option linter.all false
open Go.RowKit
set_option maxRecDepth 100000
theorem zgw {α : Type} (p : α → Bool) (l:List α):decide (0≤zkm p l)=l.any p:=by
 unfold zkm
 cases h:l.findIdx? p with
 | none =>
  have:=List.findIdx?_eq_none_iff.1 h
  simp only[show ¬(0:Int) ≤ -1 by omega,decide_false]
  symm;rw[List.any_eq_false];intro x hx;simp[this x hx]
 | some i =>
  obtain⟨hi,h1,_⟩:=List.findIdx?_eq_some_iff_getElem.1 h
  simp only[Int.natCast_nonneg,decide_true]
  symm;rw[List.any_eq_true];exact⟨_,List.getElem_mem hi,h1⟩
theorem yg2 (F:FuncId) (a b:List AV) (l:List Int) (p:Int→Bool) (hl:l.length≤9223372036854775807) (hp:∀n∈l,Spec Tryz.prog F (a ++ [I .i64 n]++b) [] (B (p n)) []) (ha:∀h,cvL [] h a=a) (hb:∀h,cvL [] h b=b) :
 Spec Tryz.prog 142 [.c (.sl 1 (l.map zae)),.clo (.func F) a b] [] (I .i64 (zkm p l)) []:=by
 refine spB Tryz.func142 19 [.tmp 4] Tryz.results142 ?_
 simp(etaStruct := .none)only[push_cast,zab,seval]
 refine za3 (fun k:Nat=>⟨[(8,I .i64 k),(7,I .i64 l.length),(0,.c (.sl 1 (l.map zae))),(1,.clo (.func F) a b)],[],0⟩) (fun k=>k≤l.length∧∀j (hj:j<l.length),j<k→p l[j]=false) (fun k=>l.length-k) 0 ⟨Nat.zero_le _,fun j _ h=>by omega⟩ (To.mk [] rfl rfl List.nodup_nil trivial ?_) ?_
 ·simp(etaStruct := .none)only[push_cast,zab,seval,ha,hb]
 ·rintro k ⟨hk,hn⟩
  simp(etaStruct := .none)only[push_cast,zab,seval]
  refine za1 (fun h => ?_) (fun h => ?_)
  ·have hlt:k<l.length:=by simpa using h
   simp(etaStruct := .none)only[push_cast,zab,seval,zcs _ _ _ hlt,zae]
   repeat with_reducible refine obA ?_
   refine zem (hp _ (List.getElem_mem hlt)) (by simp only[zeh,ha,hb,cvL,cv];exact WkL.refl _) ?_
   simp(etaStruct := .none)only[push_cast,zab,seval]
   refine za1 (fun h => ?_) (fun h => ?_)
   ·simp(etaStruct := .none)only[push_cast,zab,seval]
    exact zbr rfl trivial (Wk.of (by rw[zey p l k hlt h hn];rfl))
   ·simp(etaStruct := .none)only[push_cast,zab,seval]
    refine⟨k+1,⟨by omega,fun j hj hjk => ?_⟩,by omega,To.mk [] rfl rfl List.nodup_nil trivial ?_⟩
    ·by_cases e:j=k
     ·subst e;exact h
     ·exact hn j hj (by omega)
    ·simp(etaStruct := .none)only[push_cast,zab,seval,ha,hb]
     simp(disch:=omega)only[zaq,zbg,tdv,tmd]
  ·have hge:k=l.length:=by simp at h;omega
   subst hge
   simp(etaStruct := .none)only[push_cast,zab,seval]
   exact zbr rfl trivial (Wk.of (by rw[zdy p l (fun j hj=>hn j hj hj)];rfl))
theorem z2o (F:FuncId) (a b:List AV) (l:List Int) (p:Int→Bool) (hl:l.length≤9223372036854775807) (hp:∀n∈l,Spec Tryz.prog F (a ++ [I .i64 n]++b) [] (B (p n)) []) (ha:∀h,cvL [] h a=a) (hb:∀h,cvL [] h b=b) :
 Spec Tryz.prog 101 [.c (.sl 1 (l.map zae)),.clo (.func F) a b] [] (B (l.any p)) []:=by
 refine spB Tryz.func101 9 [.tmp 4] Tryz.results101 ?_
 simp(etaStruct := .none)only[push_cast,zab,seval]
 refine zem (yg2 F a b l p hl hp ha hb) (by simp only[ha,hb,cvL,cv];exact WkL.refl _) ?_
 simp(etaStruct := .none)only[push_cast,zab,seval]
 exact zbr rfl trivial (Wk.of (by rw[zgw];rfl))
end Go.Proofs.YtmjbgbmegbkmhaaGreat
