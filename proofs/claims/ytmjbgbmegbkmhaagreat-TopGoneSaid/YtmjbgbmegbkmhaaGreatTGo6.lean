/- Lemmas for the proof of topGone.proved. -/
import Derived.Test.YtmjbgbmegbkmhaaGreatTGo5
namespace Go.Proofs.YtmjbgbmegbkmhaaGreat
set_option linter.all false
open Go.RowKit
set_option maxRecDepth 100000
set_option maxHeartbeats 2000000
structure Sea where
 waits:List Ord
 late:Int
 gone:Bool
 deriving DecidableEq, Inhabited
def zbs (s:Sea):List PV := [.sl 6 (s.waits.map zdg),pI s.late,pB s.gone]
theorem zca (s:Sea):zbs s = [.sl 6 (s.waits.map zdg),pI s.late,pB s.gone]:=rfl
abbrev yep (s:Sea):AV := .agg [.c (.sl 6 (s.waits.map zdg)),I .i64 s.late,B s.gone]
def zfp (s:Sea):Prop:=s.waits.length≤2932031007402
def zi2 (i:Int) (o:Ord):Bool := !decide (o.by_=i) || !decide (zef o=0)
def zl5 (s:Sea):Bool := !zaj s.late 0 1000000||(s.gone&&(!decide (s.late=0)||decide (0<s.waits.length)))
def zpb (s:Sea) (i:Int):Bool := !zl5 s && !s.waits.any (zi2 i)
def za0 (l:List Sea):Int :=
 if l.length<1∨8<l.length then 1 else if l.any (fun s=>decide (50<s.waits.length))then 2 else
 if (List.range l.length).all (fun i=>zpb (l.getD i default) i)then 0 else 4
theorem ycj (F:FuncId) (a b:List AV) (l:List Ord) (p:Ord→Bool) (hl:l.length≤9223372036854775807) (hp:∀n∈l,Spec Tryz.prog F (a ++ [zni n]++b) [] (B (p n)) []) (ha:∀h,cvL [] h a=a) (hb:∀h,cvL [] h b=b) :
 Spec Tryz.prog 39 [.c (.sl 6 (l.map zdg)),.clo (.func F) a b] [] (I .i64 (zjc p l)) []:=by
 refine spB Tryz.func39 19 [.tmp 4] Tryz.results39 ?_
 simp(etaStruct := .none)only[push_cast,zab,seval]
 refine zay (fun k:Nat=>⟨[(8,I .i64 k),(7,I .i64 l.length),(0,.c (.sl 6 (l.map zdg))),(1,.clo (.func F) a b)],[],0⟩) (fun k=>k≤l.length∧∀j (hj:j<l.length),j<k→p l[j]=false) (fun k=>l.length-k) 0 ⟨Nat.zero_le _,fun j _ h=>by omega⟩ (To.mk [] rfl rfl List.nodup_nil trivial ?_) ?_
 ·simp(etaStruct := .none)only[push_cast,zab,seval,ha,hb]
 ·rintro k ⟨hk,hn⟩
  simp(etaStruct := .none)only[push_cast,zab,seval]
  refine zau (fun h => ?_) (fun h => ?_)
  ·have hlt:k<l.length:=by simpa using h
   simp(etaStruct := .none)only[push_cast,zab,seval,zb9 _ _ _ hlt,zdg]
   repeat with_reducible refine obA ?_
   refine zdz (hp _ (List.getElem_mem hlt)) (by simp only[zdu,ha,hb,cvL,cv];exact WkL.refl _) ?_
   simp(etaStruct := .none)only[push_cast,zab,seval]
   refine zau (fun h => ?_) (fun h => ?_)
   ·simp(etaStruct := .none)only[push_cast,zab,seval]
    exact zcj rfl trivial (Wk.of (by rw[zdq p l k hlt h hn];rfl))
   ·simp(etaStruct := .none)only[push_cast,zab,seval]
    refine⟨k+1,⟨by omega,fun j hj hjk => ?_⟩,by omega,To.mk [] rfl rfl List.nodup_nil trivial ?_⟩
    ·by_cases e:j=k
     ·subst e;exact h
     ·exact hn j hj (by omega)
    ·simp(etaStruct := .none)only[push_cast,zab,seval,ha,hb]
     simp(disch:=omega)only[zak,za7,tdv,tmd]
  ·have hge:k=l.length:=by simp at h;omega
   subst hge
   simp(etaStruct := .none)only[push_cast,zab,seval]
   exact zcj rfl trivial (Wk.of (by rw[zct p l (fun j hj=>hn j hj hj)];rfl))
theorem z8q (F:FuncId) (a b:List AV) (l:List Ord) (p:Ord→Bool) (hl:l.length≤9223372036854775807) (hp:∀n∈l,Spec Tryz.prog F (a ++ [zni n]++b) [] (B (p n)) []) (ha:∀h,cvL [] h a=a) (hb:∀h,cvL [] h b=b) :
 Spec Tryz.prog 11 [.c (.sl 6 (l.map zdg)),.clo (.func F) a b] [] (B (l.any p)) []:=by
 refine spB Tryz.func11 9 [.tmp 4] Tryz.results11 ?_
 simp(etaStruct := .none)only[push_cast,zab,seval]
 refine zdz (ycj F a b l p hl hp ha hb) (by simp only[ha,hb,cvL,cv];exact WkL.refl _) ?_
 simp(etaStruct := .none)only[push_cast,zab,seval]
 exact zcj rfl trivial (Wk.of (by rw[ze4];rfl))
theorem yb5 (F:FuncId) (a b:List AV) (l:List Sea) (p:Sea→Bool) (hl:l.length≤9223372036854775807) (hp:∀n∈l,Spec Tryz.prog F (a ++ [yep n]++b) [] (B (p n)) []) (ha:∀h,cvL [] h a=a) (hb:∀h,cvL [] h b=b) :
 Spec Tryz.prog 152 [.c (.sl 3 (l.map zbs)),.clo (.func F) a b] [] (I .i64 (zjc p l)) []:=by
 refine spB Tryz.func152 19 [.tmp 4] Tryz.results152 ?_
 simp(etaStruct := .none)only[push_cast,zab,seval]
 refine zay (fun k:Nat=>⟨[(8,I .i64 k),(7,I .i64 l.length),(0,.c (.sl 3 (l.map zbs))),(1,.clo (.func F) a b)],[],0⟩) (fun k=>k≤l.length∧∀j (hj:j<l.length),j<k→p l[j]=false) (fun k=>l.length-k) 0 ⟨Nat.zero_le _,fun j _ h=>by omega⟩ (To.mk [] rfl rfl List.nodup_nil trivial ?_) ?_
 ·simp(etaStruct := .none)only[push_cast,zab,seval,ha,hb]
 ·rintro k ⟨hk,hn⟩
  simp(etaStruct := .none)only[push_cast,zab,seval]
  refine zau (fun h => ?_) (fun h => ?_)
  ·have hlt:k<l.length:=by simpa using h
   simp(etaStruct := .none)only[push_cast,zab,seval,zb9 _ _ _ hlt,zbs]
   repeat with_reducible refine obA ?_
   refine zdz (hp _ (List.getElem_mem hlt)) (by simp only[zdu,ha,hb,cvL,cv];exact WkL.refl _) ?_
   simp(etaStruct := .none)only[push_cast,zab,seval]
   refine zau (fun h => ?_) (fun h => ?_)
   ·simp(etaStruct := .none)only[push_cast,zab,seval]
    exact zcj rfl trivial (Wk.of (by rw[zdq p l k hlt h hn];rfl))
   ·simp(etaStruct := .none)only[push_cast,zab,seval]
    refine⟨k+1,⟨by omega,fun j hj hjk => ?_⟩,by omega,To.mk [] rfl rfl List.nodup_nil trivial ?_⟩
    ·by_cases e:j=k
     ·subst e;exact h
     ·exact hn j hj (by omega)
    ·simp(etaStruct := .none)only[push_cast,zab,seval,ha,hb]
     simp(disch:=omega)only[zak,za7,tdv,tmd]
  ·have hge:k=l.length:=by simp at h;omega
   subst hge
   simp(etaStruct := .none)only[push_cast,zab,seval]
   exact zcj rfl trivial (Wk.of (by rw[zct p l (fun j hj=>hn j hj hj)];rfl))
theorem z79 (F:FuncId) (a b:List AV) (l:List Sea) (p:Sea→Bool) (hl:l.length≤9223372036854775807) (hp:∀n∈l,Spec Tryz.prog F (a ++ [yep n]++b) [] (B (p n)) []) (ha:∀h,cvL [] h a=a) (hb:∀h,cvL [] h b=b) :
 Spec Tryz.prog 121 [.c (.sl 3 (l.map zbs)),.clo (.func F) a b] [] (B (l.any p)) []:=by
 refine spB Tryz.func121 9 [.tmp 4] Tryz.results121 ?_
 simp(etaStruct := .none)only[push_cast,zab,seval]
 refine zdz (yb5 F a b l p hl hp ha hb) (by simp only[ha,hb,cvL,cv];exact WkL.refl _) ?_
 simp(etaStruct := .none)only[push_cast,zab,seval]
 exact zcj rfl trivial (Wk.of (by rw[ze4];rfl))
theorem ycg (o:Ord) (i:Int):Spec Tryz.prog 153 ([] ++ [zni o] ++ [.fel 1 [[.v (.int .i64 i)]] 0 0]) [] (B (zi2 i o)) []:=by
 refine spB Tryz.func153 13 [.tmp 3] Tryz.results153 ?_
 try refine xst ?_
 refine gcP (fun hcc=>ze0 o) ?_
 try refine xst ?_
 (first|(refine zas rfl (Wk.of ?_);(try simp(etaStruct := .none)only[push_cast,zab,seval]);first|done|(simp[zi2, *];done)|(simp_all[zi2];done))|(refine zas rfl ?_;(try simp(etaStruct := .none)only[push_cast,zab,seval]);(try simp[zi2, *]);(try exact wkc)))
theorem zhi (s:Sea):(decide (s.late<0)||decide (1000000<s.late)||(s.gone&&(!decide (s.late=0)||decide (0<(s.waits.length:Int)))))=zl5 s:=by
 unfold zl5 zaj
 rw[Bool.eq_iff_iff];simp
theorem z2y (s:Sea) (i:Int) (hl:zfp s):Spec Tryz.prog 123 [yep s,I .i64 i] [] (B (zpb s i)) []:=by
 unfold zfp at hl
 refine spB Tryz.func123 33 [.tmp 4] Tryz.results123 ?_
 try refine xz1 (zhi s) ?_
 refine cI (fun h1 => ?_) fun h1 => ?_
 ·try refine xz1 (zhi s) ?_
  (first|(refine zas rfl (Wk.of ?_);(try simp(etaStruct := .none)only[push_cast,zab,seval]);first|done|(simp[zpb, *];done)|(simp_all[zpb];done))|(refine zas rfl ?_;(try simp(etaStruct := .none)only[push_cast,zab,seval]);(try simp[zpb, *]);(try exact wkc)))
 ·try refine xz1 (zhi s) ?_
  refine zcl (z8q _ [] [.fel 1 [[.v (.int .i64 i)]] 0 0] s.waits (zi2 i) (by omega) (fun o _=>ycg o i) (fun _=>rfl) (fun _=>rfl)) (WkL.refl _) rfl ?_
  try refine xz1 (zhi s) ?_
  (first|(refine zas rfl (Wk.of ?_);(try simp(etaStruct := .none)only[push_cast,zab,seval]);first|done|(simp[zpb, *];done)|(simp_all[zpb];done))|(refine zas rfl ?_;(try simp(etaStruct := .none)only[push_cast,zab,seval]);(try simp[zpb, *]);(try exact wkc)))
theorem yb6 (s:Sea) (hl:zfp s):Spec Tryz.prog 122 ([] ++ [yep s] ++ []) [] (B (decide (50<s.waits.length))) []:=by
 unfold zfp at hl
 refine spB Tryz.func122 7 [.tmp 2] Tryz.results122 ?_
 try refine xst ?_
 exact zcj rfl trivial (Wk.of (congrArg B (by rw[Bool.eq_iff_iff];simp;omega)))
theorem zdl (l:List Sea) (hl:l.length≤9223372036854775807) (hs:∀s∈l,zfp s):Spec Tryz.prog 73 [.c (.sl 3 (l.map zbs))] [] (I .i64 (za0 l)) []:=by
 refine spB Tryz.func73 27 [.tmp 2] Tryz.results73 ?_
 try refine xst ?_
 refine cI (fun h1 => ?_) fun h1 => ?_
 ·have e:za0 l=1:=by unfold za0;rw[if_pos (by omega)]
  try refine xst ?_
  (first|(refine zas rfl (Wk.of ?_);(try simp(etaStruct := .none)only[push_cast,zab,seval]);first|done|(simp[e, *];done)|(simp_all[e];done))|(refine zas rfl ?_;(try simp(etaStruct := .none)only[push_cast,zab,seval]);(try simp[e, *]);(try exact wkc)))
 ·try refine xst ?_
  refine caP (z79 _ [] [] l (fun s=>decide (50<s.waits.length)) hl (fun s hh=>yb6 s (hs s hh)) (fun _=>rfl) (fun _=>rfl)) ?_
  try refine xst ?_
  refine cI (fun h2 => ?_) fun h2 => ?_
  ·have e:za0 l=2:=by unfold za0;rw[if_neg (by omega),if_pos h2]
   try refine xst ?_
   (first|(refine zas rfl (Wk.of ?_);(try simp(etaStruct := .none)only[push_cast,zab,seval]);first|done|(simp[e, *];done)|(simp_all[e];done))|(refine zas rfl ?_;(try simp(etaStruct := .none)only[push_cast,zab,seval]);(try simp[e, *]);(try exact wkc)))
  ·try refine xst ?_
   refine zay (fun k:Nat=>⟨[(17,I .i64 k),(16,I .i64 l.length),(15,.c (.sl 3 (l.map zbs)))],[],0⟩) (fun k:Nat=>k≤l.length∧∀j,j<k→zpb (l.getD j default) j=true) (fun k:Nat=>l.length-k) (0) (⟨Nat.zero_le _,fun j h=>by omega⟩) (To.mk [] rfl rfl List.nodup_nil trivial ?_) ?_
   ·simp(etaStruct := .none)only[push_cast,zab,seval]
   rintro k ⟨hk,hn⟩
   try refine xst ?_
   refine cI (fun h3 => ?_) fun h3 => ?_
   ·have hlt:k<l.length:=by omega
    try refine xz2 (gd hlt) zca ?_
    refine caP (z2y (l.getD k default) k (hs _ (by rw[zad _ _ hlt];exact List.getElem_mem hlt))) ?_
    try refine xz2 (gd hlt) zca ?_
    refine cI (fun h4 => ?_) fun h4 => ?_
    ·have e:za0 l=4:=by
      unfold za0
      rw[if_neg (by omega),if_neg (by rw[h2];simp),if_neg]
      rw[List.all_eq_true]
      intro hh
      have:=hh k (by simp;omega)
      rw[h4]at this;simp at this
     try refine xz2 (gd hlt) zca ?_
     (first|(refine zas rfl (Wk.of ?_);(try simp(etaStruct := .none)only[push_cast,zab,seval]);first|done|(simp[e, *];done)|(simp_all[e];done))|(refine zas rfl ?_;(try simp(etaStruct := .none)only[push_cast,zab,seval]);(try simp[e, *]);(try exact wkc)))
    ·try refine xz2 (gd hlt) zca ?_
     refine⟨k+1,⟨by omega,fun j hj=>by rcases Nat.lt_or_ge j k with h|h;exact hn j h;rw[show j=k by omega];exact h4⟩,by omega,To.mk [] rfl rfl List.nodup_nil trivial ?_⟩
     ·(try(refine xz2 (gd hlt) zca ?_;try exact xtI))
   ·have e:za0 l=0:=by
     unfold za0
     rw[if_neg (by omega),if_neg (by rw[h2];simp),if_pos]
     rw[List.all_eq_true]
     intro i hi
     exact hn i (by simp at hi;omega)
    try refine xst ?_
    (first|(refine zas rfl (Wk.of ?_);(try simp(etaStruct := .none)only[push_cast,zab,seval]);first|done|(simp[e, *];done)|(simp_all[e];done))|(refine zas rfl ?_;(try simp(etaStruct := .none)only[push_cast,zab,seval]);(try simp[e, *]);(try exact wkc)))
theorem z6h (l:List Sea) (hl:l.length≤100000) (hs:∀s∈l,zfp s):Spec Tryz.prog 76 [.c (.sl 3 (l.map zbs))] [] (.own 0) [.row 169 3 (l.map zbs)]:=by
 refine spB Tryz.func76 25 [.tmp 2] Tryz.results76 ?_
 iterate 2(try simp(etaStruct := .none)only[push_cast,zab,seval,List.length_take,List.length_map];try refine xsu ?_)
 refine zay (fun k:Nat=>⟨[(11,I .i64 k),(10,I .i64 l.length),(9,.c (.sl 3 (l.map zbs))),(3,.own 0)],[(0,.row 169 3 ((l.take k).map zbs))],1⟩) (fun k:Nat=>k≤l.length) (fun k:Nat=>l.length-k) (0) (Nat.zero_le _) (To.mk [0] rfl rfl (by decide) ?_ ?_) ?_
 ·simp(etaStruct := .none)only[push_cast,zab,seval]
 ·simp(etaStruct := .none)only[push_cast,zab,seval]
 rintro k hk
 iterate 2(try simp(etaStruct := .none)only[push_cast,zab,seval,List.length_take,List.length_map];try refine xsu ?_)
 refine cI (fun h1 => ?_) fun h1 => ?_
 ·have hlt:k<l.length:=by omega
  iterate 2(try simp(etaStruct := .none)only[push_cast,zab,seval,List.length_take,List.length_map,zaa _ _ _ hlt,zbs];try refine xsu ?_)
  have ts:=zaq l k hlt
  refine caP (zhp (l.getD k default).waits (hs _ (by rw[zad _ _ hlt];exact List.getElem_mem hlt))) ?_
  iterate 2(try simp(etaStruct := .none)only[push_cast,zab,seval,List.length_take,List.length_map,zaa _ _ _ hlt,zbs];try refine xsu ?_)
  refine⟨k+1,by omega,by omega,To.mk [3] rfl rfl (by decide) ?_ ?_⟩
  ·(iterate 2((try simp(etaStruct := .none)only[push_cast,zab,seval,ts,List.map_append,zbs]);(try(refine xsu ?_;try exact xtI))))
  ·(iterate 2((try simp(etaStruct := .none)only[push_cast,zab,seval,List.length_take,List.length_map,zaa _ _ _ hlt,zbs]);(try(refine xsu ?_;try exact xtI))))
 ·obtain rfl:k=l.length:=by omega
  iterate 2(try simp(etaStruct := .none)only[push_cast,zab,seval,List.length_take,List.length_map];try refine xsu ?_)
  refine zb6 [0] rfl rfl (by decide) ⟨?_,trivial⟩ trivial ?_
  ·simp(etaStruct := .none)only[push_cast,zab,seval,List.take_length]
  ·simp(etaStruct := .none)only[push_cast,zab,seval]
end Go.Proofs.YtmjbgbmegbkmhaaGreat
namespace Go.Proofs.YtmjbgbmegbkmhaaGreat
set_option linter.all false
open Go.RowKit
def tkS (most:Int):List Ord→List Sea→List Ord × List Sea
 | out,[]=>(out,[])
 | out,s::r =>
  if 0<s.waits.length∧(out.length:Int)<most then ((tkS most (out ++ [s.waits.getD 0 default]) r).1,⟨s.waits.drop 1,s.late,s.gone⟩::(tkS most (out ++ [s.waits.getD 0 default]) r).2)
  else ((tkS most out r).1,s::(tkS most out r).2)
def ya6 (l:List Sea):Nat:=(l.map fun s=>s.waits.length).sum
theorem zro (most:Int):∀(l:List Sea) (out:List Ord),(tkS most out l).1.length+ya6 (tkS most out l).2=out.length+ya6 l
 | [],out=>by simp[tkS,ya6]
 | s::r,out=>by
  unfold tkS
  split
  ·rename_i h
   have:=zro most r (out ++ [s.waits.getD 0 default])
   simp only[ya6,List.map_cons,List.sum_cons,List.length_append,List.length_cons,List.length_nil,List.length_drop]at this ⊢
   omega
  ·have:=zro most r out
   simp only[ya6,List.map_cons,List.sum_cons]at this ⊢
   omega
theorem ztf (most:Int):∀(l:List Sea) (out:List Ord),out.length≤(tkS most out l).1.length
 | [],out=>by simp[tkS]
 | s::r,out=>by
  unfold tkS
  split
  ·have:=ztf most r (out ++ [s.waits.getD 0 default]);simp only[List.length_append,List.length_cons,List.length_nil]at this ⊢;omega
  ·exact ztf most r out
theorem zyc (most:Int):∀(l:List Sea) (out:List Ord),(out.length:Int)≤max most 0→((tkS most out l).1.length:Int)≤max most 0
 | [],out,h=>by simpa[tkS]using h
 | s::r,out,h=>by
  unfold tkS
  split
  ·exact zyc most r _ (by simp;omega)
  ·exact zyc most r out h
theorem zrq (most:Int):∀(l:List Sea) (out:List Ord),(tkS most out l).2.length=l.length
 | [],out=>by simp[tkS]
 | s::r,out=>by unfold tkS;split<;>simp[zrq most r]
theorem zte (most:Int):∀(l:List Sea) (out:List Ord),(tkS most out l).1.length=out.length→tkS most out l=(out,l)
 | [],out,_=>by simp[tkS]
 | s::r,out,h=>by
  unfold tkS at h ⊢
  split at h
  ·have:=ztf most r (out ++ [s.waits.getD 0 default])
   simp only[List.length_append,List.length_cons,List.length_nil]at this h
   omega
  ·rename_i hc
   rw[if_neg hc,zte most r out h]
def zq5 (most:Int) (x:List Ord × List Sea):Prop:=¬((x.1.length:Int)<most)∨∀s∈x.2,s.waits.length=0
theorem zm5 {most:Int} : ∀ {l:List Sea} {out:List Ord},zq5 most (out,l)→tkS most out l=(out,l)
 | [],out,_=>by simp[tkS]
 | s::r,out,h=>by
  have hc:¬(0<s.waits.length∧(out.length:Int)<most):=by
   rcases h with h|h
   ·exact fun q=>h q.2
   ·have:=h s (by simp);omega
  unfold tkS
  rw[if_neg hc,zm5 (l:=r) (out:=out) (by rcases h with h|h;exact .inl h;exact .inr fun s hs=>h s (by simp[hs]))]
theorem zyg {most:Int} {x:List Ord × List Sea} (h:zq5 most x):tkS most x.1 x.2=x:=by
 obtain⟨a,b⟩:=x
 exact zm5 h
def itS (most:Int):Nat→List Ord × List Sea→List Ord × List Sea
 | 0,x=>x
 | n+1,x=>itS most n (tkS most x.1 x.2)
theorem zjq (most:Int):∀(n:Nat) (x:List Ord × List Sea),itS most (n+1) x=tkS most (itS most n x).1 (itS most n x).2
 | 0,x=>rfl
 | n+1,x=>by rw[itS,zjq most n];rfl
theorem zsg (most:Int) (x:List Ord × List Sea) (a:Nat) (h:tkS most (itS most a x).1 (itS most a x).2=itS most a x):∀d,itS most (a+d) x=itS most a x
 | 0=>rfl
 | d+1=>by rw[←Nat.add_assoc,zjq,zsg most x a h d,h]
theorem ydg (most:Int) (x:List Ord × List Sea) (a b:Nat) (ha:tkS most (itS most a x).1 (itS most a x).2=itS most a x) (hb:tkS most (itS most b x).1 (itS most b x).2=itS most b x):itS most a x=itS most b x:=by
 rcases Nat.le_total a b with h|h
 ·rw[show b=a+(b-a)by omega,zsg most x a ha]
 ·rw[show a=b+(a-b)by omega,zsg most x b hb]
def zbj (s:Sea):Sea:=⟨s.waits,if 0<s.waits.length then 0 else if s.gone then s.late else min (s.late+1) 1000000,s.gone⟩
def zcg (most:Int) (l:List Sea):List Ord × List Sea:=itS most 50 ([],l.map zbj)
theorem zyb (most:Int) (n:Nat):∀(l:List Sea) (out:List Ord),((tkS most out l).1.length:Int)<most→(∀s∈l,s.waits.length≤n+1)→∀s∈(tkS most out l).2,s.waits.length≤n
 | [],out,_,_,s,hs=>by simp[tkS]at hs
 | x::r,out,h,hl,s,hs=>by
  unfold tkS at h hs
  split at h
  ·rename_i hc
   rw[if_pos hc]at hs
   simp only at h hs
   rcases List.mem_cons.1 hs with rfl|hs
   ·have:=hl x (by simp);simp only[List.length_drop];omega
   ·exact zyb most n r _ h (fun s hs=>hl s (by simp[hs])) s hs
  ·rename_i hc
   rw[if_neg hc]at hs
   simp only at h hs
   rcases List.mem_cons.1 hs with rfl|hs
   ·have:=ztf most r out;omega
   ·exact zyb most n r _ h (fun s hs=>hl s (by simp[hs])) s hs
theorem z6u {most:Int} {x:List Ord × List Sea} (h:zq5 most x):∀n,itS most n x=x
 | 0=>rfl
 | n+1=>by
  have:=zm5 (l:=x.2) (out:=x.1) h
  rw[itS,this];exact z6u h n
theorem zuv (most:Int):∀(n:Nat) (x:List Ord × List Sea),(∀s∈x.2,s.waits.length≤n)→zq5 most (itS most n x)
 | 0,x,h => .inr fun s hs=>Nat.le_zero.1 (h s hs)
 | n+1,x,h=>by
  rw[itS]
  by_cases hc:((tkS most x.1 x.2).1.length:Int)<most
  ·exact zuv most n _ (zyb most n x.2 x.1 hc h)
  ·have hs:zq5 most (tkS most x.1 x.2) := .inl hc
   rw[z6u hs];exact hs
theorem z5n {most:Int} {l:List Sea} {n:Nat} (hw:∀s∈l,s.waits.length≤50) (h:tkS most (itS most n ([],l.map zbj)).1 (itS most n ([],l.map zbj)).2=itS most n ([],l.map zbj)):zcg most l=itS most n ([],l.map zbj):=by
 have hs:∀m,50≤m→tkS most (itS most m ([],l.map zbj)).1 (itS most m ([],l.map zbj)).2=itS most m ([],l.map zbj):=fun m hm=>by
  refine zyg (zuv most m _ fun s hs => ?_)
  obtain⟨t,ht,rfl⟩:=List.mem_map.1 hs
  exact Nat.le_trans (hw t ht) hm
 have key:∀m,50≤m→itS most m ([],l.map zbj)=itS most n ([],l.map zbj):=fun m hm=>ydg most _ m n (hs m hm) h
 unfold zcg
 exact key 50 (Nat.le_refl _)
theorem zb1 {l:List Sea} (h:za0 l=0):1≤l.length∧l.length≤8∧(∀s∈l,s.waits.length≤50)∧∀k,k<l.length→zpb (l.getD k default) k=true:=by
 unfold za0 at h
 split at h
 ·simp at h
 ·split at h
  ·simp at h
  ·rename_i h1 h2
   split at h
   ·rename_i h3
    refine⟨by omega,by omega,fun s hs => ?_,fun k hk => ?_⟩
    ·simp only[List.any_eq_true,decide_eq_true_eq,not_exists,not_and]at h2
     have:=h2 s hs;omega
    ·exact List.all_eq_true.1 h3 k (by simpa using hk)
   ·simp at h
theorem znb {s:Sea} {i:Int} (h:zpb s i=true):(0≤s.late∧s.late≤1000000)∧(s.gone=true→s.late=0∧s.waits.length=0)∧∀o∈s.waits,o.by_=i∧zef o=0:=by
 unfold zpb zl5 at h
 simp only[Bool.and_eq_true,Bool.not_eq_true',Bool.or_eq_false_iff,Bool.not_eq_false',within_iff,List.any_eq_false]at h
 refine⟨h.1.1,fun hg => ?_,fun o ho => ?_⟩
 ·have:=h.1.2
  rw[hg]at this
  simp at this
  exact⟨this.1,by rw[this.2];rfl⟩
 ·have:=h.2 o ho
  unfold zi2 at this
  simp at this
  exact this
theorem yac {α : Type} [Inhabited α] (l:List α) (i:Nat) (h:i<l.length):l.drop i=l.getD i default::l.drop (i+1):=by rw[List.drop_eq_getElem_cons h,zad _ _ h]
theorem z3a {l:List Sea} {i:Nat} {x:Sea} (h:∀s∈l,zfp s) (hx:zfp x):∀s∈l.set i x,zfp s:=fun s hs=>by
 rcases List.mem_or_eq_of_mem_set hs with h'|h'
 ·exact h s h'
 ·rw[h'];exact hx
end Go.Proofs.YtmjbgbmegbkmhaaGreat
namespace Go.Proofs.YtmjbgbmegbkmhaaGreat
set_option linter.all false
open Go.RowKit
set_option maxRecDepth 100000
set_option maxHeartbeats 1000000
def zfm (w:Wld):Prop:=w.f.p.length≤9223372036854775807∧w.bases.length≤9223372036854775807∧w.stocks.length≤9223372036854775807∧w.mines.length≤9223372036854775807∧w.troops.length≤9223372036854775807
abbrev zop (w:Wld):List AV := [I .i64 w.f.w,I .i64 w.f.h,.c (.sl 1 (w.f.p.map zac)),.c (.sl 2 (w.bases.map za6)),.c (.sl 1 (w.stocks.map zac)),.c (.sl 1 (w.mines.map zac)),.c (.sl 7 (w.troops.map zat)),I .i64 w.next,I .i64 w.now]
abbrev ya4 (t:Trp):AV := .agg [I .i64 t.id,I .i64 t.owner,I .i64 t.kind,I .i64 t.c.x,I .i64 t.c.y,I .i64 t.life,I .i64 t.load]
abbrev yhp (t:Trp):List AV := [I .i64 t.id,I .i64 t.owner,I .i64 t.kind,I .i64 t.c.x,I .i64 t.c.y,I .i64 t.life,I .i64 t.load]
theorem zrd {w:Wld} (hf:zbv w.f=0) (hb:¬(8<w.bases.length∨100<w.troops.length)) (h1:ziy w=true) (h:zhb w=true):zao w=0:=by
 unfold zao;rw[if_neg (by simp[hf]),if_neg hb,h1,h];rfl
theorem z1t (l:List Cel) (v:Cel) (hl:l.length≤9223372036854775807):Spec Tryz.prog 143 [.c (.sl 2 (l.map za6)),zg6 v] [] (I .i64 (zjc (fun x=>decide (v=x)) l)) []:=by
 refine spB Tryz.func143 19 [.tmp 4] Tryz.results143 ?_
 try refine xst ?_
 refine zay (fun k:Nat=>⟨[(8,I .i64 k),(7,I .i64 l.length),(3,.ptr 0 0 0),(0,.c (.sl 2 (l.map za6)))],[(0,.blk 46 [I .i64 v.x,I .i64 v.y])],1⟩) (fun k:Nat=>k≤l.length∧∀j (hj:j<l.length),j<k→decide (v=l[j])=false) (fun k:Nat=>l.length-k) (0) (⟨Nat.zero_le _,fun j _ h=>by omega⟩) (To.mk [0] rfl rfl (by decide) ?_ ?_) ?_
 ·simp(etaStruct := .none)only[push_cast,zab,seval]
 ·simp(etaStruct := .none)only[push_cast,zab,seval]
 rintro k ⟨hk,hn⟩
 try refine xst ?_
 refine zau (fun h1 => ?_) (fun h1 => ?_)
 ·(try replace h1:=xhh h1)
  have hlt:k<l.length:=by omega
  try refine xz3 (gd hlt) zcu zg5 ?_
  (try(refine⟨by kernel_rfl,?_⟩))
  try refine xz3 (gd hlt) zcu zg5 ?_
  refine cI (fun h2 => ?_) fun h2 => ?_
  ·try refine xz3 (gd hlt) zcu zg5 ?_
   exact zcj rfl trivial (Wk.of (by rw[zdq (fun x=>decide (v=x)) l k hlt (by rw[←zad _ _ hlt];simpa using h2) hn];rfl))
  ·try refine xz3 (gd hlt) zcu zg5 ?_
   refine⟨k+1,⟨by omega,fun j hj hjk=>by
 rcases Nat.lt_or_ge j k with h|h
 ·simpa using hn j hj h
 ·obtain rfl:j=k:=by omega
  rw[←zad _ _ hj];simpa using h2⟩,by omega,To.mk [0] rfl rfl (by decide) ?_ ?_⟩
   ·(try(refine xz3 (gd hlt) zcu zg5 ?_;try exact xtI))
   ·(try(refine xz3 (gd hlt) zcu zg5 ?_;try exact xtI))
 ·(try replace h1:=xhh h1)
  try refine xst ?_
  exact zcj rfl trivial (Wk.of (by rw[zct (fun x=>decide (v=x)) l (fun j hj=>hn j hj (by omega))];rfl))
theorem zq1 (l:List Cel) (v:Cel) (hl:l.length≤9223372036854775807):Spec Tryz.prog 104 [.c (.sl 2 (l.map za6)),zg6 v] [] (B (l.any (fun x=>decide (v=x)))) []:=by
 refine spB Tryz.func104 9 [.tmp 4] Tryz.results104 ?_
 iterate 2(try simp(etaStruct := .none)only[push_cast,zab,seval,ze4];try refine xsu ?_)
 refine caP (z1t l v hl) ?_
 iterate 2(try simp(etaStruct := .none)only[push_cast,zab,seval,ze4];try refine xsu ?_)
 exact xrz rfl
theorem zj5 (f:Fld) (c:Cel) (h:zbv f=0) (hl:f.p.length≤9223372036854775807):Spec Tryz.prog 103 [z45 f,zg6 c] [] (B (zb0 f c)) []:=by
 refine spB Tryz.func103 19 [.tmp 4] Tryz.results103 ?_
 try refine xst ?_
 refine caP (zxv f c hl) ?_
 try refine xst ?_
 exact zcj rfl trivial (Wk.of (congrArg B (by unfold atV zb0;rw[if_neg (by simp[h])];cases inF f c<;>simp)))
theorem zbi (n a b:Int):Spec Tryz.prog 105 [I .i64 n,I .i64 a,I .i64 b] [] (B (zaj n a b)) []:=by
 refine spB Tryz.func105 15 [.tmp 6] Tryz.results105 ?_
 try refine xst ?_
 exact zcj rfl trivial (Wk.of (congrArg B (by unfold zaj;first|rfl|simp)))
def zfg (k:Int):Int:=if k=1∨k=2 then 0 else 1
theorem zgp (k:Int):Spec Tryz.prog 106 [I .i64 k] [] (.tup [yi2 (zba k),I .i64 (zfg k)]) []:=by
 refine spB Tryz.func106 12 [.cell 2 222,.tmp 3] Tryz.results106 ?_
 try refine xst ?_
 refine cI (fun h1 => ?_) fun h1 => ?_
 ·try refine xst ?_
  (first|(refine zas rfl (Wk.of ?_);(try simp(etaStruct := .none)only[push_cast,zab,seval]);first|done|(simp[zba,zfg, *];done)|(simp_all[zba,zfg];done))|(refine zas rfl ?_;(try simp(etaStruct := .none)only[push_cast,zab,seval]);(try simp[zba,zfg, *]);(try exact wkc)))
 ·try refine xst ?_
  refine cI (fun h2 => ?_) fun h2 => ?_
  ·try refine xst ?_
   (first|(refine zas rfl (Wk.of ?_);(try simp(etaStruct := .none)only[push_cast,zab,seval]);first|done|(simp[zba,zfg, *];done)|(simp_all[zba,zfg];done))|(refine zas rfl ?_;(try simp(etaStruct := .none)only[push_cast,zab,seval]);(try simp[zba,zfg, *]);(try exact wkc)))
  ·try refine xst ?_
   (first|(refine zas rfl (Wk.of ?_);(try simp(etaStruct := .none)only[push_cast,zab,seval]);first|done|(simp[zba,zfg, *];done)|(simp_all[zba,zfg];done))|(refine zas rfl ?_;(try simp(etaStruct := .none)only[push_cast,zab,seval]);(try simp[zba,zfg, *]);(try exact wkc)))
theorem z5u (w:Wld) (i:Nat) (hi:i<w.bases.length):((w.bases.take i).any fun x=>decide (w.bases.getD i default=x)) = !zfk (fun j => !decide (w.bases.getD j default=w.bases.getD i default)) i:=by
 rw[Bool.eq_iff_iff,Bool.not_eq_true',←Bool.not_eq_true,za9,List.any_eq_true]
 constructor
 ·rintro⟨x,hx,h⟩ hh
  obtain⟨j,hj,rfl⟩:=List.getElem_of_mem hx
  rw[List.length_take]at hj
  have:=hh j (by omega)
  rw[List.getElem_take]at h
  rw[zad _ _ (by omega)]at this
  simp only[decide_eq_true_eq]at h
  simp only[Bool.not_eq_true',decide_eq_false_iff_not]at this
  exact this h.symm
 ·intro hh
  apply Classical.byContradiction
  intro hn
  apply hh
  intro j hj
  simp only[Bool.not_eq_true',decide_eq_false_iff_not]
  intro he
  apply hn
  refine⟨w.bases.getD j default,?_,decide_eq_true he.symm⟩
  rw[zad _ _ (by omega)]
  exact List.mem_take_iff_getElem.2 ⟨j,by omega,rfl⟩
def zdo (w:Wld):Bool:=decide (w.stocks.length=w.bases.length)&&zfk (zl0 w) w.bases.length
def zhr (w:Wld):Bool:=decide (w.mines.length=w.f.p.length)&&zfk (zlr w) w.mines.length
def zcy (w:Wld):Bool:=zaj w.next 1 1000000&&zaj w.now 0 1000000&&zfk (zel w) w.troops.length
theorem ptm (w:Wld):(zdo w&&zhr w&&zcy w)=(ziy w&&zhb w):=by
 unfold zdo zhr zcy ziy zhb
 cases decide (w.stocks.length=w.bases.length)<;>cases decide (w.mines.length=w.f.p.length)<;>cases zaj w.next 1 1000000<;>cases zaj w.now 0 1000000<;>simp
theorem zju {p:Nat→Bool} {n k:Nat} (h:k<n) (hp:p k=false):zfk p n=false:=by
 rw[←Bool.not_eq_true,za9];intro hh
 have:=hh k h
 rw[hp]at this;simp at this
theorem zv4 (w:Wld) (hl:zfm w) (hf:zbv w.f=0):Spec Tryz.prog 58 [zdf w] [] (B (zdo w)) []:=by
 obtain⟨l1,l2,l3,l4,l5⟩:=hl
 refine spB Tryz.func58 43 [.tmp 2] Tryz.results58 ?_
 try refine xst ?_
 refine cI (fun h1 => ?_) fun h1 => ?_
 ·have e:zdo w=false:=by unfold zdo;rw[decide_eq_false (by omega)];rfl
  try refine xst ?_
  (first|(refine zas rfl (Wk.of ?_);(try simp(etaStruct := .none)only[push_cast,zab,seval]);first|done|(simp[e, *];done)|(simp_all[e];done))|(refine zas rfl ?_;(try simp(etaStruct := .none)only[push_cast,zab,seval]);(try simp[e, *]);(try exact wkc)))
 ·have hls:w.stocks.length=w.bases.length:=by omega
  try refine xst ?_
  refine zay (fun k:Nat=>⟨[(15,I .i64 k),(14,I .i64 w.bases.length),(13,.c (.sl 2 (w.bases.map za6))),(1,.ptr 0 0 0)],[(0,.blk 28 (zop w))],1⟩) (fun k:Nat=>k≤w.bases.length∧zfk (zl0 w) k=true) (fun k:Nat=>w.bases.length-k) (0) (⟨Nat.zero_le _,rfl⟩) (To.mk [0] rfl rfl (by decide) ?_ ?_) ?_
  ·simp(etaStruct := .none)only[push_cast,zab,seval]
  ·simp(etaStruct := .none)only[push_cast,zab,seval]
  rintro k ⟨hk,hn⟩
  try refine xst ?_
  refine cI (fun h2 => ?_) fun h2 => ?_
  ·have hlt:k<w.bases.length:=by omega
   have hlt2:k<w.stocks.length:=by omega
   have et:(w.bases.map za6).take k=(w.bases.take k).map za6:=by rw[List.map_take]
   have ba:=z5u w k hlt
   try refine xz5 (gd hlt) zcu (gd hlt2) za4 et ?_
   refine caP (zj5 w.f (w.bases.getD k default) hf l1) ?_
   try refine xz5 (gd hlt) zcu (gd hlt2) za4 et ?_
   refine gcP (fun hcc=>zq1 (w.bases.take k) (w.bases.getD k default) (by rw[List.length_take];omega)) ?_
   try refine xz5 (gd hlt) zcu (gd hlt2) za4 et ?_
   refine gcP (fun hcc=>zbi (w.stocks.getD k default) 0 1000000) ?_
   try refine xz5 (gd hlt) zcu (gd hlt2) za4 et ?_
   (try(refine⟨by kernel_rfl,?_⟩))
   try refine xz5 (gd hlt) zcu (gd hlt2) za4 et ?_
   refine cI (fun h3 => ?_) fun h3 => ?_
   ·have e0:zl0 w k=false:=by
     unfold zl0
     rw[ba]at h3
     rcases h3 with (h|h)|h
     ·rw[h];rfl
     ·have h':zfk (fun j => !decide (w.bases.getD j default=w.bases.getD k default)) k=false:=by simpa using h
      rw[h'];simp
     ·rw[h];simp
    have e:zdo w=false:=by unfold zdo;rw[zju hlt e0];simp
    try refine xz5 (gd hlt) zcu (gd hlt2) za4 et ?_
    (first|(refine zas rfl (Wk.of ?_);(try simp(etaStruct := .none)only[push_cast,zab,seval]);first|done|(simp[e, *];done)|(simp_all[e];done))|(refine zas rfl ?_;(try simp(etaStruct := .none)only[push_cast,zab,seval]);(try simp[e, *]);(try exact wkc)))
   ·have e0:zl0 w k=true:=by
     unfold zl0
     rw[ba]at h3
     rw[h3.1.1,h3.2]
     simpa using h3.1.2
    try refine xz5 (gd hlt) zcu (gd hlt2) za4 et ?_
    refine⟨k+1,⟨by omega,by rw[zfk,hn,e0];rfl⟩,by omega,To.mk [0] rfl rfl (by decide) ?_ ?_⟩
    ·(try(refine xz5 (gd hlt) zcu (gd hlt2) za4 et ?_;try exact xtI))
    ·(try(refine xz5 (gd hlt) zcu (gd hlt2) za4 et ?_;try exact xtI))
  ·obtain rfl:k=w.bases.length:=by omega
   have e:zdo w=true:=by unfold zdo;rw[decide_eq_true hls,hn];rfl
   try refine xst ?_
   (first|(refine zas rfl (Wk.of ?_);(try simp(etaStruct := .none)only[push_cast,zab,seval]);first|done|(simp[e, *];done)|(simp_all[e];done))|(refine zas rfl ?_;(try simp(etaStruct := .none)only[push_cast,zab,seval]);(try simp[e, *]);(try exact wkc)))
theorem z2u (w:Wld) (hl:zfm w):Spec Tryz.prog 59 [zdf w] [] (B (zhr w)) []:=by
 obtain⟨l1,l2,l3,l4,l5⟩:=hl
 refine spB Tryz.func59 38 [.tmp 2] Tryz.results59 ?_
 try refine xst ?_
 refine cI (fun h1 => ?_) fun h1 => ?_
 ·have e:zhr w=false:=by unfold zhr;rw[decide_eq_false (by omega)];rfl
  try refine xst ?_
  (first|(refine zas rfl (Wk.of ?_);(try simp(etaStruct := .none)only[push_cast,zab,seval]);first|done|(simp[e, *];done)|(simp_all[e];done))|(refine zas rfl ?_;(try simp(etaStruct := .none)only[push_cast,zab,seval]);(try simp[e, *]);(try exact wkc)))
 ·have hls:w.mines.length=w.f.p.length:=by omega
  try refine xst ?_
  refine zay (fun k:Nat=>⟨[(16,I .i64 k),(15,I .i64 w.mines.length),(14,.c (.sl 1 (w.mines.map zac))),(1,.ptr 0 0 0)],[(0,.blk 28 (zop w))],1⟩) (fun k:Nat=>k≤w.mines.length∧zfk (zlr w) k=true) (fun k:Nat=>w.mines.length-k) (0) (⟨Nat.zero_le _,rfl⟩) (To.mk [0] rfl rfl (by decide) ?_ ?_) ?_
  ·simp(etaStruct := .none)only[push_cast,zab,seval]
  ·simp(etaStruct := .none)only[push_cast,zab,seval]
  rintro k ⟨hk,hn⟩
  try refine xst ?_
  refine cI (fun h2 => ?_) fun h2 => ?_
  ·have hlt:k<w.mines.length:=by omega
   have hlt2:k<w.f.p.length:=by omega
   try refine xz3 (gd hlt) (gd hlt2) za4 ?_
   refine caP (zbi (w.mines.getD k default) 0 1000000) ?_
   try refine xz3 (gd hlt) (gd hlt2) za4 ?_
   refine cI (fun h3 => ?_) fun h3 => ?_
   ·have e0:zlr w k=false:=by
     unfold zlr
     rcases h3 with h|⟨h,h'⟩
     ·rw[h];rfl
     ·rw[decide_eq_false (by omega),decide_eq_false (by omega)];simp
    have e:zhr w=false:=by unfold zhr;rw[zju hlt e0];simp
    try refine xz3 (gd hlt) (gd hlt2) za4 ?_
    (first|(refine zas rfl (Wk.of ?_);(try simp(etaStruct := .none)only[push_cast,zab,seval]);first|done|(simp[e, *];done)|(simp_all[e];done))|(refine zas rfl ?_;(try simp(etaStruct := .none)only[push_cast,zab,seval]);(try simp[e, *]);(try exact wkc)))
   ·have e0:zlr w k=true:=by
     unfold zlr
     rw[h3.1]
     have:=within_iff.1 h3.1
     simp only[Bool.true_and,Bool.or_eq_true,decide_eq_true_eq]
     omega
    try refine xz3 (gd hlt) (gd hlt2) za4 ?_
    refine⟨k+1,⟨by omega,by rw[zfk,hn,e0];rfl⟩,by omega,To.mk [0] rfl rfl (by decide) ?_ ?_⟩
    ·(try(refine xz3 (gd hlt) (gd hlt2) za4 ?_;try exact xtI))
    ·(try(refine xz3 (gd hlt) (gd hlt2) za4 ?_;try exact xtI))
  ·obtain rfl:k=w.mines.length:=by omega
   have e:zhr w=true:=by unfold zhr;rw[decide_eq_true hls,hn];rfl
   try refine xst ?_
   (first|(refine zas rfl (Wk.of ?_);(try simp(etaStruct := .none)only[push_cast,zab,seval]);first|done|(simp[e, *];done)|(simp_all[e];done))|(refine zas rfl ?_;(try simp(etaStruct := .none)only[push_cast,zab,seval]);(try simp[e, *]);(try exact wkc)))
def zgy (w:Wld) (i:Nat):Int:=if i=0 then 0 else (w.troops.getD (i-1) default).id
theorem z9k (w:Wld):zgy w 0=0:=rfl
theorem z9j (w:Wld) (k:Nat):zgy w (k+1)=(w.troops.getD k default).id:=by simp[zgy]
def zh8 (w:Wld) (k:Nat) (c:Cel):Bool := !zfk (fun j => !decide ((w.troops.getD j default).c=c)) k
theorem z78 (w:Wld) (c:Cel):zh8 w 0 c=false:=rfl
theorem zwa (w:Wld) (k:Nat) (c:Cel):zh8 w (k+1) c=(zh8 w k c||decide ((w.troops.getD k default).c=c)):=by
 unfold zh8;rw[zfk];simp[Bool.not_and]
theorem zom (p q:Nat→Bool):∀n,zfk (fun j=>p j&&q j) n=(zfk p n&&zfk q n)
 | 0=>rfl
 | n+1=>by
  rw[zfk,zfk,zfk,zom p q n]
  cases zfk p n<;>cases zfk q n<;>cases p n<;>cases q n<;>rfl
theorem zut {w:Wld} {k:Nat} (h:zfk (zel w) k=true) (t:Trp):0≤zgy w k∧(zgy w k<t.id↔1≤t.id∧zfk (fun j=>decide ((w.troops.getD j default).id<t.id)) k=true):=by
 have hh:=(za9 _ _).1 h
 cases k with
 | zero=>simp[zgy,zfk];omega
 | succ k =>
  have hk:=hh k (by omega)
  unfold zel ya5 z6b at hk
  simp only[Bool.and_eq_true,zom,within_iff]at hk
  have h2:=(za9 _ _).1 hk.2.2.1
  have el:zgy w (k+1)=(w.troops.getD k default).id:=by simp[zgy]
  rw[el,za9]
  refine⟨by omega,fun h3=>⟨by omega,fun j hj => ?_⟩,fun h3 => ?_⟩
  ·rw[decide_eq_true_eq]
   rcases Nat.lt_or_ge j k with h4|h4
   ·have:=h2 j h4
    rw[decide_eq_true_eq]at this;omega
   ·rw[show j=k by omega];exact h3
  ·have:=h3.2 k (by omega)
   rwa [decide_eq_true_eq]at this
theorem zoz {w:Wld} {k:Nat} (h:zfk (zel w) k=true):zel w k=(zaj (w.troops.getD k default).kind 1 2&&zaj (w.troops.getD k default).id (zgy w k+1) (w.next-1)&&zaj (w.troops.getD k default).owner 0 ((w.bases.length:Int)-1)&&zb0 w.f (w.troops.getD k default).c&&zaj (w.troops.getD k default).life 1 (zba (w.troops.getD k default).kind).life&&zaj (w.troops.getD k default).load 0 (5*(2-(w.troops.getD k default).kind)) && !zh8 w k (w.troops.getD k default).c):=by
 obtain⟨_,h2⟩:=zut h (w.troops.getD k default)
 unfold zel ya5 z6b zh8
 rw[zom,Bool.not_not]
 have e:zaj (w.troops.getD k default).id (zgy w k+1) (w.next-1)=(zaj (w.troops.getD k default).id 1 (w.next-1)&&zfk (fun j=>decide ((w.troops.getD j default).id<(w.troops.getD k default).id)) k):=by
  rw[Bool.eq_iff_iff,Bool.and_eq_true,within_iff,within_iff]
  constructor
  ·rintro⟨a,b⟩
   have:=h2.1 (by omega)
   exact⟨⟨this.1,b⟩,this.2⟩
  ·rintro⟨⟨a,b⟩,c⟩
   have:=h2.2 ⟨a,c⟩
   exact⟨by omega,b⟩
 rw[e]
 cases zaj (w.troops.getD k default).kind 1 2<;>cases zaj (w.troops.getD k default).id 1 (w.next-1)<;>cases zaj (w.troops.getD k default).owner 0 ((w.bases.length:Int)-1)<;>cases zb0 w.f (w.troops.getD k default).c<;>cases zaj (w.troops.getD k default).life 1 (zba (w.troops.getD k default).kind).life<;>cases zaj (w.troops.getD k default).load 0 (5*(2-(w.troops.getD k default).kind))<;>simp
theorem yde {k:Int} (h:¬zfg k=0):zaj k 1 2=false:=by
 rw[z2k];unfold zfg at h;split at h<;>omega
theorem ydd {k:Int} (h:zfg k=0):zaj k 1 2=true:=by
 rw[within_iff];unfold zfg at h;split at h<;>omega
theorem zqd {k:Int} (h:zaj k 1 2=true):5*(2-k)=if k=1 then 5 else 0:=by
 rw[within_iff]at h;split<;>omega
def zrn (c:Cel):List Int := [c.x,c.y]
theorem tkeyC_inj {a b:Cel} : zrn a=zrn b↔a=b:=by
 cases a;cases b;simp[zrn]
theorem zx5 (w:Wld) (hl:zfm w) (hf:zbv w.f=0) (hn1:zaj w.next 1 1000000=true) (hn2:zaj w.now 0 1000000=true):Spec Tryz.prog 60 [zdf w] [] (B (zcy w)) []:=by
 obtain⟨l1,l2,l3,l4,l5⟩:=hl
 have hnx:=within_iff.1 hn1
 refine spB Tryz.func60 96 [.tmp 2] Tryz.results60 ?_
 iterate 2(try simp(etaStruct := .none)only[push_cast,zab,seval,beq_self_eq_true];try refine xsu ?_)
 refine zay (fun x:Nat × List (List Int × Int)=>⟨[(14,I .i64 x.1),(13,I .i64 w.troops.length),(12,.c (.sl 7 (w.troops.map zat))),(4,.map 1),(3,I .i64 (zgy w x.1)),(1,.ptr 0 0 0)],[(0,.blk 28 (zop w)),(1,.mp true 2 x.2)],2⟩) (fun x:Nat × List (List Int × Int)=>x.1≤w.troops.length∧zfk (zel w) x.1=true∧(∀c:Cel,zcw (zrn c) x.2=if zh8 w x.1 c then 1 else 0)) (fun x:Nat × List (List Int × Int)=>w.troops.length-x.1) ((0,[])) (⟨Nat.zero_le _,rfl,fun c=>by rw[z78];rfl⟩) (To.mk [0,1] rfl rfl (by decide) ?_ ?_) ?_
 ·simp(etaStruct := .none)only[push_cast,zab,seval]
 ·simp(etaStruct := .none)only[push_cast,zab,seval,z9k]
 rintro⟨k,es⟩ ⟨hk,hn,hm⟩
 simp only at hk hn hm
 iterate 2(try simp(etaStruct := .none)only[push_cast,zab,seval,beq_self_eq_true];try refine xsu ?_)
 refine zau (fun h1 => ?_) (fun h1 => ?_)
 ·(try replace h1:=xhh h1)
  have hlt:k<w.troops.length:=by omega
  have hla:=(zut hn (w.troops.getD k default)).1
  have hla2:zgy w k≤1000000:=by
   unfold zgy
   split
   ·omega
   ·have:=(za9 _ _).1 hn (k-1) (by omega)
    unfold zel ya5 at this
    simp only[Bool.and_eq_true,within_iff]at this
    omega
  iterate 2(try simp(etaStruct := .none)only[push_cast,zab,seval,beq_self_eq_true,zaa _ _ _ hlt,zat];try refine xsu ?_)
  refine caP (zgp (w.troops.getD k default).kind) ?_
  iterate 2(try simp(etaStruct := .none)only[push_cast,zab,seval,beq_self_eq_true,zaa _ _ _ hlt,zat];try refine xsu ?_)
  refine zmq (fun _u:Unit=>⟨[(14,I .i64 k),(13,I .i64 w.troops.length),(12,.c (.sl 7 (w.troops.map zat))),(9,I .i64 (if (w.troops.getD k default).kind=1 then 5 else 0)),(8,I .i64 (zfg (w.troops.getD k default).kind)),(7,.ptr 3 0 0),(6,.ptr 2 0 0),(4,.map 1),(3,I .i64 (zgy w k)),(1,.ptr 0 0 0)],[(0,.blk 28 (zop w)),(1,.mp true 2 es),(2,.blk 108 (yhp (w.troops.getD k default))),(3,.blk 222 [I .i64 (zba (w.troops.getD k default).kind).life,I .i64 (zba (w.troops.getD k default).kind).blow,I .i64 (zba (w.troops.getD k default).kind).load,I .i64 (zba (w.troops.getD k default).kind).price])],4⟩) (fun _u:Unit=>Tr) (fun h2 => ?_) (fun h2 => ?_) ?_
  ·(try replace h2:=xhh h2)
   iterate 2(try simp(etaStruct := .none)only[push_cast,zab,seval,beq_self_eq_true,zaa _ _ _ hlt,zat];try refine xsu ?_)
   refine⟨(),trI,To.mk [0,1,2,3] rfl rfl (by decide) ?_ ?_⟩
   ·(iterate 2((try simp(etaStruct := .none)only[push_cast,zab,seval,beq_self_eq_true,zaa _ _ _ hlt,zat]);(try(refine xsu ?_;try exact xtI))))
   ·(iterate 2((try simp(etaStruct := .none)only[push_cast,zab,seval,if_pos h2]);(try(refine xsu ?_;try exact xtI))))
  ·(try replace h2:=xhh h2)
   iterate 2(try simp(etaStruct := .none)only[push_cast,zab,seval,beq_self_eq_true,zaa _ _ _ hlt,zat];try refine xsu ?_)
   refine⟨(),trI,To.mk [0,1,2,3] rfl rfl (by decide) ?_ ?_⟩
   ·(iterate 2((try simp(etaStruct := .none)only[push_cast,zab,seval,beq_self_eq_true,zaa _ _ _ hlt,zat]);(try(refine xsu ?_;try exact xtI))))
   ·(iterate 2((try simp(etaStruct := .none)only[push_cast,zab,seval,if_neg h2]);(try(refine xsu ?_;try exact xtI))))
  ·rintro _ _
   iterate 2(try simp(etaStruct := .none)only[push_cast,zab,seval,beq_self_eq_true,zaa _ _ _ hlt,zat];try refine xsu ?_)
   refine gcP (fun hcc=>zbi (w.troops.getD k default).id (zgy w k+1) (w.next-1)) ?_
   iterate 2(try simp(etaStruct := .none)only[push_cast,zab,seval,beq_self_eq_true,zaa _ _ _ hlt,zat];try refine xsu ?_)
   refine gcP (fun hcc=>zbi (w.troops.getD k default).owner 0 ((w.bases.length:Int)-1)) ?_
   iterate 2(try simp(etaStruct := .none)only[push_cast,zab,seval,beq_self_eq_true,zaa _ _ _ hlt,zat];try refine xsu ?_)
   refine gcP (fun hcc=>zj5 w.f (w.troops.getD k default).c hf l1) ?_
   iterate 2(try simp(etaStruct := .none)only[push_cast,zab,seval,beq_self_eq_true,zaa _ _ _ hlt,zat];try refine xsu ?_)
   refine gcP (fun hcc=>zbi (w.troops.getD k default).life 1 (zba (w.troops.getD k default).kind).life) ?_
   iterate 2(try simp(etaStruct := .none)only[push_cast,zab,seval,beq_self_eq_true,zaa _ _ _ hlt,zat];try refine xsu ?_)
   refine gcP (fun hcc=>zbi (w.troops.getD k default).load 0 (if (w.troops.getD k default).kind=1 then 5 else 0)) ?_
   iterate 2(try simp(etaStruct := .none)only[push_cast,zab,seval,beq_self_eq_true,zaa _ _ _ hlt,zat];try refine xsu ?_)
   refine cI (fun h3 => ?_) fun h3 => ?_
   ·have e0:zel w k=false:=by
     rw[zoz hn]
     rcases h3 with ((((h|h)|h)|h)|h)|h
     ·rw[yde h];rfl
     ·rw[h];simp
     ·rw[h];simp
     ·rw[h];simp
     ·rw[h];simp
     ·cases hkk:zaj (w.troops.getD k default).kind 1 2 with
      | false=>rfl
      | true=>rw[zqd hkk,h];simp
    have e:zcy w=false:=by unfold zcy;rw[zju hlt e0];simp
    iterate 2(try simp(etaStruct := .none)only[push_cast,zab,seval,beq_self_eq_true,zaa _ _ _ hlt,zat];try refine xsu ?_)
    (first|(refine zas rfl (Wk.of ?_);(try simp(etaStruct := .none)only[push_cast,zab,seval]);first|done|(simp[e, *];done)|(simp_all[e];done))|(refine zas rfl ?_;(try simp(etaStruct := .none)only[push_cast,zab,seval]);(try simp[e, *]);(try exact wkc)))
   ·have hkk:=ydd h3.1.1.1.1.1
    have e0:zel w k = !zh8 w k (w.troops.getD k default).c:=by
     rw[zoz hn,hkk,zqd hkk,h3.1.1.1.1.2,h3.1.1.1.2,h3.1.1.2,h3.1.2,h3.2];rfl
    have hg:zcw [(w.troops.getD k default).c.x,(w.troops.getD k default).c.y] es=if zh8 w k (w.troops.getD k default).c=true then 1 else 0:=hm (w.troops.getD k default).c
    have hg2:0≤zcw [(w.troops.getD k default).c.x,(w.troops.getD k default).c.y] es∧zcw [(w.troops.getD k default).c.x,(w.troops.getD k default).c.y] es≤1:=by rw[hg];split<;>omega
    obtain⟨es',hes'⟩:∃es',es'=zf4 [(w.troops.getD k default).c.x,(w.troops.getD k default).c.y] (zcw [(w.troops.getD k default).c.x,(w.troops.getD k default).c.y] es+1) es:=⟨_,rfl⟩
    have hp1:=zum [(w.troops.getD k default).c.x,(w.troops.getD k default).c.y] (zcw [(w.troops.getD k default).c.x,(w.troops.getD k default).c.y] es+1) es
    have hp2:=fun c=>zb2 [(w.troops.getD k default).c.x,(w.troops.getD k default).c.y] (zrn c) (zcw [(w.troops.getD k default).c.x,(w.troops.getD k default).c.y] es+1) es
    rw[←hes']at hp1 hp2
    have hmp:=zks [(w.troops.getD k default).c.x,(w.troops.getD k default).c.y] es
    iterate 2(try simp(etaStruct := .none)only[push_cast,zab,seval,beq_self_eq_true,zaa _ _ _ hlt,zat,zag,←hes',hp1];try refine xsu ?_)
    (try(refine⟨by kernel_rfl,?_⟩))
    iterate 2(try simp(etaStruct := .none)only[push_cast,zab,seval,beq_self_eq_true,zaa _ _ _ hlt,zat,zag,←hes',hp1];try refine xsu ?_)
    refine cI (fun h4 => ?_) fun h4 => ?_
    ·have hs:zh8 w k (w.troops.getD k default).c=true:=by
      cases hs:zh8 w k (w.troops.getD k default).c with
      | true=>rfl
      | false=>rw[hg,hs]at h4;simp at h4
     have e:zcy w=false:=by unfold zcy;rw[zju hlt (by rw[e0,hs];rfl)];simp
     iterate 2(try simp(etaStruct := .none)only[push_cast,zab,seval,beq_self_eq_true,zaa _ _ _ hlt,zat,zag,←hes',hp1];try refine xsu ?_)
     (first|(refine zas rfl (Wk.of ?_);(try simp(etaStruct := .none)only[push_cast,zab,seval]);first|done|(simp[e, *];done)|(simp_all[e];done))|(refine zas rfl ?_;(try simp(etaStruct := .none)only[push_cast,zab,seval]);(try simp[e, *]);(try exact wkc)))
    ·have hs:zh8 w k (w.troops.getD k default).c=false:=by
      cases hs:zh8 w k (w.troops.getD k default).c with
      | false=>rfl
      | true=>rw[hg,hs]at h4;simp at h4
     iterate 2(try simp(etaStruct := .none)only[push_cast,zab,seval,beq_self_eq_true,zaa _ _ _ hlt,zat,zag,←hes',hp1];try refine xsu ?_)
     refine⟨(k+1,es'),⟨by simp only;omega,by simp only;rw[zfk,hn,e0,hs];rfl,fun c=>by
 simp only
 rw[hp2 c,zwa,hg,hs]
 by_cases hc:(w.troops.getD k default).c=c
 ·rw[if_pos (show zrn c = [(w.troops.getD k default).c.x,(w.troops.getD k default).c.y]from tkeyC_inj.2 hc.symm),decide_eq_true hc];simp
 ·rw [if_neg (show ¬ zrn c = [(w.troops.getD k default).c.x, (w.troops.getD k default).c.y] from fun h => hc (tkeyC_inj.1 h).symm), decide_eq_false hc, hm c, Bool.or_false]⟩, by simp only; omega, To.mk [0, 1] rfl rfl (by decide) ?_ ?_⟩
     ·(iterate 2((try simp(etaStruct := .none)only[push_cast,zab,seval,beq_self_eq_true,zaa _ _ _ hlt,zat,zag,←hes',hp1]);(try(refine xsu ?_;try exact xtI))))
     ·(try(refine xz1 z9j ?_;try exact xtI))
 ·(try replace h1:=xhh h1)
  obtain rfl:k=w.troops.length:=by omega
  have e:zcy w=true:=by unfold zcy;rw[hn1,hn2,hn];rfl
  iterate 2(try simp(etaStruct := .none)only[push_cast,zab,seval,beq_self_eq_true];try refine xsu ?_)
  refine caP (zbi w.next 1 1000000) ?_
  iterate 2(try simp(etaStruct := .none)only[push_cast,zab,seval,beq_self_eq_true];try refine xsu ?_)
  refine gcP (fun hcc=>zbi w.now 0 1000000) ?_
  iterate 2(try simp(etaStruct := .none)only[push_cast,zab,seval,beq_self_eq_true];try refine xsu ?_)
  exact zcj rfl trivial (Wk.of (by rw[e,hn1,hn2];rfl))
theorem zrk (w:Wld) (hl:zfm w) (hf:zbv w.f=0) (hb:(zaj w.next 1 1000000&&zaj w.now 0 1000000)=false):Spec Tryz.prog 60 [zdf w] [] (B (zcy w)) []:=by
 obtain⟨l1,l2,l3,l4,l5⟩:=hl
 have e:zcy w=false:=by unfold zcy;rw[hb];rfl
 refine spB Tryz.func60 96 [.tmp 2] Tryz.results60 ?_
 iterate 2(try simp(etaStruct := .none)only[push_cast,zab,seval,beq_self_eq_true];try refine xsu ?_)
 refine zay (fun x:Nat × Int × List (List Int × Int)=>⟨[(14,I .i64 x.1),(13,I .i64 w.troops.length),(12,.c (.sl 7 (w.troops.map zat))),(4,.map 1),(3,I .i64 x.2.1),(1,.ptr 0 0 0)],[(0,.blk 28 (zop w)),(1,.mp true 2 x.2.2)],2⟩) (fun x:Nat × Int × List (List Int × Int)=>x.1≤w.troops.length) (fun x:Nat × Int × List (List Int × Int)=>w.troops.length-x.1) ((0,0,[])) (Nat.zero_le _) (To.mk [0,1] rfl rfl (by decide) ?_ ?_) ?_
 ·simp(etaStruct := .none)only[push_cast,zab,seval]
 ·simp(etaStruct := .none)only[push_cast,zab,seval]
 rintro⟨k,last,es⟩ hk
 simp only at hk
 iterate 2(try simp(etaStruct := .none)only[push_cast,zab,seval,beq_self_eq_true];try refine xsu ?_)
 refine cI (fun h1 => ?_) fun h1 => ?_
 ·have hlt:k<w.troops.length:=by omega
  iterate 2(try simp(etaStruct := .none)only[push_cast,zab,seval,beq_self_eq_true,zaa _ _ _ hlt,zat];try refine xsu ?_)
  refine caP (zgp (w.troops.getD k default).kind) ?_
  iterate 2(try simp(etaStruct := .none)only[push_cast,zab,seval,beq_self_eq_true,zaa _ _ _ hlt,zat];try refine xsu ?_)
  refine zmq (fun m:Int=>⟨[(14,I .i64 k),(13,I .i64 w.troops.length),(12,.c (.sl 7 (w.troops.map zat))),(9,I .i64 m),(8,I .i64 (zfg (w.troops.getD k default).kind)),(7,.ptr 3 0 0),(6,.ptr 2 0 0),(4,.map 1),(3,I .i64 last),(1,.ptr 0 0 0)],[(0,.blk 28 (zop w)),(1,.mp true 2 es),(2,.blk 108 (yhp (w.troops.getD k default))),(3,.blk 222 [I .i64 (zba (w.troops.getD k default).kind).life,I .i64 (zba (w.troops.getD k default).kind).blow,I .i64 (zba (w.troops.getD k default).kind).load,I .i64 (zba (w.troops.getD k default).kind).price])],4⟩) (fun m:Int=>Tr) (fun h2 => ?_) (fun h2 => ?_) ?_
  ·(try replace h2:=xhh h2)
   iterate 2(try simp(etaStruct := .none)only[push_cast,zab,seval,beq_self_eq_true,zaa _ _ _ hlt,zat];try refine xsu ?_)
   refine⟨5,trI,To.mk [0,1,2,3] rfl rfl (by decide) ?_ ?_⟩
   ·(iterate 2((try simp(etaStruct := .none)only[push_cast,zab,seval,beq_self_eq_true,zaa _ _ _ hlt,zat]);(try(refine xsu ?_;try exact xtI))))
   ·(iterate 2((try simp(etaStruct := .none)only[push_cast,zab,seval,beq_self_eq_true,zaa _ _ _ hlt,zat]);(try(refine xsu ?_;try exact xtI))))
  ·(try replace h2:=xhh h2)
   iterate 2(try simp(etaStruct := .none)only[push_cast,zab,seval,beq_self_eq_true,zaa _ _ _ hlt,zat];try refine xsu ?_)
   refine⟨0,trI,To.mk [0,1,2,3] rfl rfl (by decide) ?_ ?_⟩
   ·(iterate 2((try simp(etaStruct := .none)only[push_cast,zab,seval,beq_self_eq_true,zaa _ _ _ hlt,zat]);(try(refine xsu ?_;try exact xtI))))
   ·(iterate 2((try simp(etaStruct := .none)only[push_cast,zab,seval,beq_self_eq_true,zaa _ _ _ hlt,zat]);(try(refine xsu ?_;try exact xtI))))
  ·rintro m _
   iterate 2(try simp(etaStruct := .none)only[push_cast,zab,seval,beq_self_eq_true,zaa _ _ _ hlt,zat];try refine xsu ?_)
   refine gcP (fun hcc=>zbi (w.troops.getD k default).id _ _) ?_
   iterate 2(try simp(etaStruct := .none)only[push_cast,zab,seval,beq_self_eq_true,zaa _ _ _ hlt,zat];try refine xsu ?_)
   refine gcP (fun hcc=>zbi (w.troops.getD k default).owner 0 ((w.bases.length:Int)-1)) ?_
   iterate 2(try simp(etaStruct := .none)only[push_cast,zab,seval,beq_self_eq_true,zaa _ _ _ hlt,zat];try refine xsu ?_)
   refine gcP (fun hcc=>zj5 w.f (w.troops.getD k default).c hf l1) ?_
   iterate 2(try simp(etaStruct := .none)only[push_cast,zab,seval,beq_self_eq_true,zaa _ _ _ hlt,zat];try refine xsu ?_)
   refine gcP (fun hcc=>zbi (w.troops.getD k default).life 1 (zba (w.troops.getD k default).kind).life) ?_
   iterate 2(try simp(etaStruct := .none)only[push_cast,zab,seval,beq_self_eq_true,zaa _ _ _ hlt,zat];try refine xsu ?_)
   refine gcP (fun hcc=>zbi (w.troops.getD k default).load 0 m) ?_
   iterate 2(try simp(etaStruct := .none)only[push_cast,zab,seval,beq_self_eq_true,zaa _ _ _ hlt,zat];try refine xsu ?_)
   refine cI (fun h3 => ?_) fun h3 => ?_
   ·iterate 2(try simp(etaStruct := .none)only[push_cast,zab,seval,beq_self_eq_true,zaa _ _ _ hlt,zat];try refine xsu ?_)
    (first|(refine zas rfl (Wk.of ?_);(try simp(etaStruct := .none)only[push_cast,zab,seval]);first|done|(simp[e, *];done)|(simp_all[e];done))|(refine zas rfl ?_;(try simp(etaStruct := .none)only[push_cast,zab,seval]);(try simp[e, *]);(try exact wkc)))
   ·have hmp:=zks [(w.troops.getD k default).c.x,(w.troops.getD k default).c.y] es
    iterate 2(try simp(etaStruct := .none)only[push_cast,zab,seval,beq_self_eq_true,zaa _ _ _ hlt,zat,zag];try refine xsu ?_)
    (try(refine⟨by kernel_rfl,?_⟩))
    iterate 2(try simp(etaStruct := .none)only[push_cast,zab,seval,beq_self_eq_true,zaa _ _ _ hlt,zat,zag];try refine xsu ?_)
    refine cI (fun h4 => ?_) fun h4 => ?_
    ·iterate 2(try simp(etaStruct := .none)only[push_cast,zab,seval,beq_self_eq_true,zaa _ _ _ hlt,zat,zag];try refine xsu ?_)
     (first|(refine zas rfl (Wk.of ?_);(try simp(etaStruct := .none)only[push_cast,zab,seval]);first|done|(simp[e, *];done)|(simp_all[e];done))|(refine zas rfl ?_;(try simp(etaStruct := .none)only[push_cast,zab,seval]);(try simp[e, *]);(try exact wkc)))
    ·iterate 2(try simp(etaStruct := .none)only[push_cast,zab,seval,beq_self_eq_true,zaa _ _ _ hlt,zat,zag];try refine xsu ?_)
     refine⟨(k+1,(w.troops.getD k default).id,zf4 [(w.troops.getD k default).c.x,(w.troops.getD k default).c.y] (IntKind.i64.wrap (zcw [(w.troops.getD k default).c.x,(w.troops.getD k default).c.y] es+1)) es),by simp only;omega,by simp only;omega,To.mk [0,1] rfl rfl (by decide) ?_ ?_⟩
     ·(iterate 2((try simp(etaStruct := .none)only[push_cast,zab,seval,beq_self_eq_true,zaa _ _ _ hlt,zat,zag]);(try(refine xsu ?_;try exact xtI))))
     ·(iterate 2((try simp(etaStruct := .none)only[push_cast,zab,seval,beq_self_eq_true,zaa _ _ _ hlt,zat,zag]);(try(refine xsu ?_;try exact xtI))))
 ·iterate 2(try simp(etaStruct := .none)only[push_cast,zab,seval,beq_self_eq_true];try refine xsu ?_)
  refine caP (zbi w.next 1 1000000) ?_
  iterate 2(try simp(etaStruct := .none)only[push_cast,zab,seval,beq_self_eq_true];try refine xsu ?_)
  refine gcP (fun hcc=>zbi w.now 0 1000000) ?_
  iterate 2(try simp(etaStruct := .none)only[push_cast,zab,seval,beq_self_eq_true];try refine xsu ?_)
  exact zcj rfl trivial (Wk.of (by rw[e,hb];rfl))
theorem zrl (w:Wld) (hl:zfm w) (hf:zbv w.f=0):Spec Tryz.prog 60 [zdf w] [] (B (zcy w)) []:=by
 cases hb:(zaj w.next 1 1000000&&zaj w.now 0 1000000)with
 | false=>exact zrk w hl hf hb
 | true=>rw[Bool.and_eq_true]at hb;exact zx5 w hl hf hb.1 hb.2
theorem zd3 (w:Wld) (hl:zfm w):Spec Tryz.prog 17 [zdf w] [] (I .i64 (zao w)) []:=by
 refine spB Tryz.func17 33 [.tmp 2] Tryz.results17 ?_
 try refine xst ?_
 refine caP (zvf w.f hl.1) ?_
 try refine xst ?_
 refine cI (fun h1 => ?_) fun h1 => ?_
 ·have e:zao w=zbv w.f:=by unfold zao;rw[if_pos (by simpa using h1)]
  try refine xst ?_
  (first|(refine zas rfl (Wk.of ?_);(try simp(etaStruct := .none)only[push_cast,zab,seval]);first|done|(simp[e, *];done)|(simp_all[e];done))|(refine zas rfl ?_;(try simp(etaStruct := .none)only[push_cast,zab,seval]);(try simp[e, *]);(try exact wkc)))
 ·have hf:zbv w.f=0:=by simpa using h1
  try refine xst ?_
  refine cI (fun h2 => ?_) fun h2 => ?_
  ·have e:zao w=2:=by unfold zao;rw[if_neg (by simp[hf]),if_pos (by omega)]
   try refine xst ?_
   (first|(refine zas rfl (Wk.of ?_);(try simp(etaStruct := .none)only[push_cast,zab,seval]);first|done|(simp[e, *];done)|(simp_all[e];done))|(refine zas rfl ?_;(try simp(etaStruct := .none)only[push_cast,zab,seval]);(try simp[e, *]);(try exact wkc)))
  ·have hb:¬(8<w.bases.length∨100<w.troops.length):=by omega
   try refine xst ?_
   refine caP (zv4 w hl hf) ?_
   try refine xst ?_
   refine gcP (fun hcc=>z2u w hl) ?_
   try refine xst ?_
   refine gcP (fun hcc=>zrl w hl hf) ?_
   try refine xst ?_
   refine cI (fun h3 => ?_) fun h3 => ?_
   ·have e:zao w=4:=by
     unfold zao;rw[if_neg (by simp[hf]),if_neg hb,if_neg]
     rw[←ptm]
     rcases h3 with (h|h)|h<;>rw[h]<;>simp
    try refine xst ?_
    (first|(refine zas rfl (Wk.of ?_);(try simp(etaStruct := .none)only[push_cast,zab,seval]);first|done|(simp[e, *];done)|(simp_all[e];done))|(refine zas rfl ?_;(try simp(etaStruct := .none)only[push_cast,zab,seval]);(try simp[e, *]);(try exact wkc)))
   ·have e:zao w=0:=by
     unfold zao;rw[if_neg (by simp[hf]),if_neg hb,if_pos]
     rw[←ptm,h3.1.1,h3.1.2,h3.2];rfl
    try refine xst ?_
    (first|(refine zas rfl (Wk.of ?_);(try simp(etaStruct := .none)only[push_cast,zab,seval]);first|done|(simp[e, *];done)|(simp_all[e];done))|(refine zas rfl ?_;(try simp(etaStruct := .none)only[push_cast,zab,seval]);(try simp[e, *]);(try exact wkc)))
theorem zc6 {w:Wld} (h:zao w=0):zbv w.f=0∧w.bases.length≤8∧w.troops.length≤100∧ziy w=true∧zhb w=true:=by
 unfold zao at h
 split at h
 ·rename_i h1;exact absurd h h1
 ·rename_i h1
  split at h
  ·simp at h
  ·rename_i h2
   split at h
   ·rename_i h3
    rw[Bool.and_eq_true]at h3
    exact⟨Decidable.not_not.1 h1,by omega,by omega,h3.1,h3.2⟩
   ·simp at h
theorem zjx {w:Wld} (h:ziy w=true):w.stocks.length=w.bases.length∧w.mines.length=w.f.p.length∧(1≤w.next∧w.next≤1000000)∧0≤w.now∧w.now≤1000000:=by
 unfold ziy at h
 simp only[Bool.and_eq_true,decide_eq_true_eq,within_iff]at h
 exact⟨h.1.1.1,h.1.1.2,h.1.2,h.2⟩
structure TrpOk (w : Wld) (t : Trp) : Prop where
 kind:t.kind=1∨t.kind=2
 id:1≤t.id∧t.id≤w.next-1
 owner:0≤t.owner∧t.owner≤(w.bases.length:Int)-1
 at_:zb0 w.f t.c=true
 x:0≤t.c.x∧t.c.x<w.f.w
 y:0≤t.c.y∧t.c.y<w.f.h
 life:1≤t.life∧t.life≤(zba t.kind).life
 load:0≤t.load∧t.load≤5*(2-t.kind)
theorem ground_iff {f:Fld} {c:Cel} : zb0 f c=true↔inF f c=true∧zah f c≠1:=by unfold zb0;simp
theorem zew {w:Wld} (h:zao w=0) {k:Nat} (hk:k<w.troops.length):TrpOk w (w.troops.getD k default)∧z6b w k=true:=by
 obtain⟨_,_,_,_,h5⟩:=zc6 h
 unfold zhb at h5
 simp only[Bool.and_eq_true]at h5
 have:=(za9 _ _).1 h5.2 k hk
 unfold zel ya5 at this
 simp only[Bool.and_eq_true,within_iff]at this
 obtain⟨a,⟨⟨⟨⟨b,c⟩,d⟩,e⟩,f⟩,g⟩:=this
 have hi:=inF_iff.1 (ground_iff.1 d).1
 exact⟨⟨by omega,b,c,d,hi.1,hi.2,e,f⟩,g⟩
theorem zoy {w:Wld} (h:zao w=0) {t:Trp} (ht:t∈w.troops):TrpOk w t:=by
 obtain⟨i,hi,rfl⟩:=List.getElem_of_mem ht
 have:=(zew h hi).1
 rwa [zad _ _ hi]at this
theorem zx6 (F:FuncId) (a b:List AV) (l:List Trp) (p:Trp→Bool) (hl:l.length≤9223372036854775807) (hp:∀n∈l,Spec Tryz.prog F (a ++ [ya4 n]++b) [] (B (p n)) []) (ha:∀h,cvL [] h a=a) (hb:∀h,cvL [] h b=b) :
 Spec Tryz.prog 86 [.c (.sl 7 (l.map zat)),.clo (.func F) a b] [] (I .i64 (zjc p l)) []:=by
 refine spB Tryz.func86 19 [.tmp 4] Tryz.results86 ?_
 simp(etaStruct := .none)only[push_cast,zab,seval]
 refine zay (fun k:Nat=>⟨[(8,I .i64 k),(7,I .i64 l.length),(0,.c (.sl 7 (l.map zat))),(1,.clo (.func F) a b)],[],0⟩) (fun k=>k≤l.length∧∀j (hj:j<l.length),j<k→p l[j]=false) (fun k=>l.length-k) 0 ⟨Nat.zero_le _,fun j _ h=>by omega⟩ (To.mk [] rfl rfl List.nodup_nil trivial ?_) ?_
 ·simp(etaStruct := .none)only[push_cast,zab,seval,ha,hb]
 ·rintro k ⟨hk,hn⟩
  simp(etaStruct := .none)only[push_cast,zab,seval]
  refine zau (fun h => ?_) (fun h => ?_)
  ·have hlt:k<l.length:=by simpa using h
   simp(etaStruct := .none)only[push_cast,zab,seval,zb9 _ _ _ hlt,zat]
   repeat with_reducible refine obA ?_
   refine zdz (hp _ (List.getElem_mem hlt)) (by simp only[zdu,ha,hb,cvL,cv];exact WkL.refl _) ?_
   simp(etaStruct := .none)only[push_cast,zab,seval]
   refine zau (fun h => ?_) (fun h => ?_)
   ·simp(etaStruct := .none)only[push_cast,zab,seval]
    exact zcj rfl trivial (Wk.of (by rw[zdq p l k hlt h hn];rfl))
   ·simp(etaStruct := .none)only[push_cast,zab,seval]
    refine⟨k+1,⟨by omega,fun j hj hjk => ?_⟩,by omega,To.mk [] rfl rfl List.nodup_nil trivial ?_⟩
    ·by_cases e:j=k
     ·subst e;exact h
     ·exact hn j hj (by omega)
    ·simp(etaStruct := .none)only[push_cast,zab,seval,ha,hb]
     simp(disch:=omega)only[zak,za7,tdv,tmd]
  ·have hge:k=l.length:=by simp at h;omega
   subst hge
   simp(etaStruct := .none)only[push_cast,zab,seval]
   exact zcj rfl trivial (Wk.of (by rw[zct p l (fun j hj=>hn j hj hj)];rfl))
theorem zsu {α : Type} [Inhabited α] (p : α → Bool) (l:List α) (k:Nat) (h:k<l.length):(l.take (k+1)).filter p=if p (l.getD k default)then (l.take k).filter p ++ [l.getD k default]else (l.take k).filter p:=by
 rw[zaq l k h,List.filter_append,List.filter_cons,List.filter_nil]
 split<;>simp
structure Blw where
 by_:Int
 at_:Int
 deriving DecidableEq, Inhabited
def zek (b:Blw):List PV := [pI b.by_,pI b.at_]
theorem yhv (b:Blw):zek b = [pI b.by_,pI b.at_]:=rfl
structure Gop where
 id:Int
 to:Cel
 deriving DecidableEq, Inhabited
def zeh (g:Gop):List PV := [pI g.id,pI g.to.x,pI g.to.y]
theorem zmk (g:Gop):zeh g = [pI g.id,pI g.to.x,pI g.to.y]:=rfl
structure Ded where
 kind:Int
 who:Int
 c:Cel
 what:Int
 deriving DecidableEq, Inhabited
def zlm (d:Ded):List PV := [pI d.kind,pI d.who,pI d.c.x,pI d.c.y,pI d.what]
theorem ydy (d:Ded):zlm d = [pI d.kind,pI d.who,pI d.c.x,pI d.c.y,pI d.what]:=rfl
def zc4 (w:Wld) (i:Int):Option Trp:=w.troops.find? fun t=>decide (t.id=i)
def z6c:Trp:=⟨0,0,0,⟨0,0⟩,0,0⟩
theorem z46 {α : Type} [Inhabited α] (p : α → Bool) (l:List α) (k:Nat) (h:k<l.length) (hp:p (l.getD k default)=true) (hn:∀j,j<k→p (l.getD j default)=false):l.find? p=some (l.getD k default):=by
 induction l generalizing k with
 | nil=>simp at h
 | cons a r ih =>
  cases k with
  | zero=>simp only[List.getD_cons_zero]at hp ⊢;rw[List.find?_cons,hp]
  | succ k =>
   have h0:=hn 0 (by omega)
   simp only[List.getD_cons_zero]at h0
   rw[List.find?_cons,h0]
   simp only[List.getD_cons_succ]at hp ⊢
   exact ih k (by simpa using h) hp (fun j hj=>by have:=hn (j+1) (by omega);simpa using this)
theorem z1c {α : Type} [Inhabited α] (p : α → Bool) (l:List α) (hn:∀j,j<l.length→p (l.getD j default)=false):l.find? p=none:=by
 rw[List.find?_eq_none]
 intro x hx
 obtain⟨i,hi,rfl⟩:=List.getElem_of_mem hx
 have:=hn i hi
 rw[zad _ _ hi]at this
 simp[this]
def zde (o:Ord) (w:Wld):Bool:=if o.kind=5 then decide (o.by_<w.bases.length)else match zc4 w o.who with|some t=>decide (t.owner=o.by_)|none=>false
def z2i (o:Ord):List Blw:=if o.kind=1 then [⟨o.who,o.what⟩]else []
def z2h (o:Ord):List Gop:=if o.kind=2 then [⟨o.who,o.c⟩]else []
def z5f (o:Ord):Ded:=⟨o.kind-2,if o.kind=5 then o.by_ else o.who,o.c,o.what⟩
def zvz (o:Ord):List Ded:=if 2<o.kind then [z5f o]else []
def zco (l:List Ord) (w:Wld):List Blw:=(l.filter fun o=>zde o w).flatMap z2i
def zer (l:List Ord) (w:Wld):List Gop:=(l.filter fun o=>zde o w).flatMap z2h
def zcb (l:List Ord) (w:Wld):List Ded:=(l.filter fun o=>zde o w).flatMap zvz
theorem zlc {α : Type} (p:Ord→Bool) (f:Ord→List α) (l:List Ord) (k:Nat) (h:k<l.length):((l.take (k+1)).filter p).flatMap f=((l.take k).filter p).flatMap f++(if p (l.getD k default)then f (l.getD k default)else []):=by
 rw[zsu p l k h]
 split<;>simp
theorem ze8 {α : Type} (p:Ord→Bool) (f:Ord→List α) (hf:∀o,(f o).length≤1):∀l:List Ord,((l.filter p).flatMap f).length≤l.length
 | []=>by simp
 | a::r=>by
  have:=ze8 p f hf r
  have h1:=hf a
  rw[List.filter_cons]
  split
  ·rw[List.flatMap_cons,List.length_append,List.length_cons];omega
  ·rw[List.length_cons];omega
theorem zv0 (o:Ord):(z2i o).length≤1:=by unfold z2i;split<;>simp
theorem zvx (o:Ord):(z2h o).length≤1:=by unfold z2h;split<;>simp
theorem zvy (o:Ord):(zvz o).length≤1:=by unfold zvz;split<;>simp
end Go.Proofs.YtmjbgbmegbkmhaaGreat
namespace Go.Proofs.YtmjbgbmegbkmhaaGreat
set_option linter.all false
open Go.RowKit
set_option maxRecDepth 100000
set_option maxHeartbeats 400000
theorem zfs (l:List Int) (hl:l.length≤17592186044415):Spec Tryz.prog 41 [.c (.sl 1 (l.map zac))] [] (.own 0) [.row 3 1 (l.map zac)]:=by
 refine spB Tryz.func41 8 [.tmp 2] Tryz.results41 ?_
 try refine xst ?_
 intro b hb
 try refine xst ?_
 refine zau (fun h => ?_) (fun h => ?_)
 ·try refine xst ?_
  have e:=hb h
  refine zpm (To.nil 2 3 1 rfl) (zb6 [0] rfl rfl (by decide) ⟨?_,trivial⟩ trivial ?_)
  ·simp(etaStruct := .none)only[push_cast,zab,seval,e]
  ·simp(etaStruct := .none)only[push_cast,zab,seval]
 ·try refine xst ?_
  refine zb6 [1] rfl rfl (by decide) ⟨?_,trivial⟩ trivial ?_
  ·simp(etaStruct := .none)only[push_cast,zab,seval]
  ·simp(etaStruct := .none)only[push_cast,zab,seval]
theorem ze5 (l:List Int) (hl:l.length≤17592186044415):Spec Tryz.prog 41 [.c (.sl 1 (l.map zac))] [] (.c (.sl 1 (l.map zac))) []:=by
 refine spB Tryz.func41 8 [.tmp 2] Tryz.results41 ?_
 try refine xst ?_
 intro b hb
 try refine xst ?_
 refine zau (fun h => ?_) (fun h => ?_)
 ·try refine xst ?_
  exact zcj rfl trivial (by rw[hb h];exact Wk.nil _)
 ·try refine xst ?_
  exact zcj rfl trivial (Wk.refl _)
theorem z1u (l:List Cel) (hl:l.length≤8796093022207):Spec Tryz.prog 42 [.c (.sl 2 (l.map za6))] [] (.own 0) [.row 46 2 (l.map za6)]:=by
 refine spB Tryz.func42 8 [.tmp 2] Tryz.results42 ?_
 try refine xst ?_
 intro b hb
 try refine xst ?_
 refine zau (fun h => ?_) (fun h => ?_)
 ·try refine xst ?_
  have e:=hb h
  refine zpm (To.nil 2 46 2 rfl) (zb6 [0] rfl rfl (by decide) ⟨?_,trivial⟩ trivial ?_)
  ·simp(etaStruct := .none)only[push_cast,zab,seval,e]
  ·simp(etaStruct := .none)only[push_cast,zab,seval]
 ·try refine xst ?_
  refine zb6 [1] rfl rfl (by decide) ⟨?_,trivial⟩ trivial ?_
  ·simp(etaStruct := .none)only[push_cast,zab,seval]
  ·simp(etaStruct := .none)only[push_cast,zab,seval]
theorem zoi (l:List Cel) (hl:l.length≤8796093022207):Spec Tryz.prog 42 [.c (.sl 2 (l.map za6))] [] (.c (.sl 2 (l.map za6))) []:=by
 refine spB Tryz.func42 8 [.tmp 2] Tryz.results42 ?_
 try refine xst ?_
 intro b hb
 try refine xst ?_
 refine zau (fun h => ?_) (fun h => ?_)
 ·try refine xst ?_
  exact zcj rfl trivial (by rw[hb h];exact Wk.nil _)
 ·try refine xst ?_
  exact zcj rfl trivial (Wk.refl _)
theorem zox (l:List Trp) (hl:l.length≤2513169434916):Spec Tryz.prog 44 [.c (.sl 7 (l.map zat))] [] (.own 0) [.row 108 7 (l.map zat)]:=by
 refine spB Tryz.func44 8 [.tmp 2] Tryz.results44 ?_
 try refine xst ?_
 intro b hb
 try refine xst ?_
 refine zau (fun h => ?_) (fun h => ?_)
 ·try refine xst ?_
  have e:=hb h
  refine zpm (To.nil 2 108 7 rfl) (zb6 [0] rfl rfl (by decide) ⟨?_,trivial⟩ trivial ?_)
  ·simp(etaStruct := .none)only[push_cast,zab,seval,e]
  ·simp(etaStruct := .none)only[push_cast,zab,seval]
 ·try refine xst ?_
  refine zb6 [1] rfl rfl (by decide) ⟨?_,trivial⟩ trivial ?_
  ·simp(etaStruct := .none)only[push_cast,zab,seval]
  ·simp(etaStruct := .none)only[push_cast,zab,seval]
theorem ztd (l:List Trp) (hl:l.length≤2513169434916):Spec Tryz.prog 44 [.c (.sl 7 (l.map zat))] [] (.c (.sl 7 (l.map zat))) []:=by
 refine spB Tryz.func44 8 [.tmp 2] Tryz.results44 ?_
 try refine xst ?_
 intro b hb
 try refine xst ?_
 refine zau (fun h => ?_) (fun h => ?_)
 ·try refine xst ?_
  exact zcj rfl trivial (by rw[hb h];exact Wk.nil _)
 ·try refine xst ?_
  exact zcj rfl trivial (Wk.refl _)
end Go.Proofs.YtmjbgbmegbkmhaaGreat
namespace Go.Proofs.YtmjbgbmegbkmhaaGreat
set_option linter.all false
open Go.RowKit
set_option maxRecDepth 100000
set_option maxHeartbeats 2000000
theorem zqa (a b:Cel):(zk1 a b).length=max (b.x-a.x).natAbs (b.y-a.y).natAbs+1:=by simp[zk1,zam]
theorem z4h (a:Cel) (sx sy:Int) (X Y k L m:Nat) (hL:L=max X Y) (hm:m=min X Y) (h0:0<L) :
 lpt a sx sy X Y (k+1)=⟨if Y≤X∨2*L≤lr L m k+2*m then (lpt a sx sy X Y k).x+sx else (lpt a sx sy X Y k).x,if X<Y∨2*L≤lr L m k+2*m then (lpt a sx sy X Y k).y+sy else (lpt a sx sy X Y k).y⟩ ∧
 (lr L m (k+1):Int)=if 2*L≤lr L m k+2*m then (lr L m k:Int)+2*m-2*L else lr L m k+2*m:=by
 by_cases h:Y≤X
 ·obtain rfl:L=X:=by omega
  obtain rfl:m=Y:=by omega
  have st:=znr L m k h0 h
  rw[zz6 a sx sy L m k h h0,if_pos (show m≤L∨2*L≤lr L m k+2*m from Or.inl h)]
  by_cases hc:2*L≤lr L m k+2*m
  ·rw[if_pos hc,if_pos (show L<m∨2*L≤lr L m k+2*m from Or.inr hc),if_pos hc];exact⟨rfl,by have:=(st.1 hc).2;omega⟩
  ·rw[if_neg hc,if_neg (show ¬(L<m∨2*L≤lr L m k+2*m)by omega),if_neg hc];exact⟨rfl,by have:=(st.2 (by omega)).2;omega⟩
 ·obtain rfl:L=Y:=by omega
  obtain rfl:m=X:=by omega
  have st:=znr L m k h0 (by omega)
  rw[zz5 a sx sy m L k (by omega),if_pos (show m<L∨2*L≤lr L m k+2*m from Or.inl (by omega))]
  by_cases hc:2*L≤lr L m k+2*m
  ·rw[if_pos hc,if_pos (show L≤m∨2*L≤lr L m k+2*m from Or.inr hc),if_pos hc];exact⟨rfl,by have:=(st.1 hc).2;omega⟩
  ·rw[if_neg hc,if_neg (show ¬(L≤m∨2*L≤lr L m k+2*m)by omega),if_neg hc];exact⟨rfl,by have:=(st.2 (by omega)).2;omega⟩
theorem zz4 (a:Cel) (sx sy:Int) (X Y:Nat):zxs a sx sy X Y 0 = [a]:=by simp[zxs,zns]
theorem yam (a b:Cel) (ha:zd2 a=true) (hb:zd2 b=true):Spec Tryz.prog 157 [zg6 a,zg6 b] [] (.tup [.c (.sl 2 ((zk1 a b).map za6)),I .i64 0]) []:=by
 have hx:=zig ha
 have hy:=zig hb
 obtain⟨sx,hsx⟩:∃s,s=(b.x-a.x).sign:=⟨_,rfl⟩
 obtain⟨sy,hsy⟩:∃s,s=(b.y-a.y).sign:=⟨_,rfl⟩
 obtain⟨X,hX⟩:∃s,s=(b.x-a.x).natAbs:=⟨_,rfl⟩
 obtain⟨Y,hY⟩:∃s,s=(b.y-a.y).natAbs:=⟨_,rfl⟩
 have gx:=sg (b.x-a.x)
 have gy:=sg (b.y-a.y)
 rw[←hsx]at gx
 rw[←hsy]at gy
 have S1:=ztp (b.x-a.x) (by omega) (by omega)
 have S2:=ztp (b.y-a.y) (by omega) (by omega)
 have hX2:X≤2000:=by omega
 have hY2:Y≤2000:=by omega
 unfold zk1
 rw[←hsx,←hX]at S1 ⊢
 rw[←hsy,←hY]at S2 ⊢
 obtain⟨L,hL⟩:∃L,L=max X Y:=⟨_,rfl⟩
 obtain⟨m,hm⟩:∃m,m=min X Y:=⟨_,rfl⟩
 rw[←hL]
 have LR:=fun k h0=>ygz L m k h0
 have NR:=fun k hk=>z4i a sx sy X Y k gx gy hX2 hY2 hk ha
 clear hsx hsy hX hY
 refine spB Tryz.func157 93 [.tmp 4,.tmp 5] Tryz.results157 ?_
 try refine xz1 zam ?_
 refine caP (zug a (by omega) (by omega)) ?_
 try refine xz1 zam ?_
 refine gcP (fun hcc=>zug b (by omega) (by omega)) ?_
 try refine xz1 zam ?_
 refine cI (fun h1 => ?_) fun h1 => ?_
 ·simp[ha,hb]at h1
 ·try refine xz1 zam ?_
  refine caP (S1) ?_
  try refine xz1 zam ?_
  refine caP (S2) ?_
  try refine xz1 zam ?_
  refine zmq (fun _u:Unit=>⟨[(10,I .i64 L),(11,I .i64 m),(9,I .i64 Y),(8,I .i64 sy),(7,I .i64 X),(6,I .i64 sx),(2,.ptr 0 0 0)],[(0,.blk 46 [I .i64 a.x,I .i64 a.y])],1⟩) (fun _u:Unit=>Tr) (fun h2 => ?_) (fun h2 => ?_) ?_
  ·(try replace h2:=xhh h2)
   obtain rfl:L=Y:=by omega
   obtain rfl:m=X:=by omega
   try refine xz1 zam ?_
   refine⟨(),trI,To.mk [0] rfl rfl (by decide) ?_ ?_⟩
   ·(try(refine xz1 zam ?_;try exact xtI))
   ·(try(refine xz1 zam ?_;try exact xtI))
  ·(try replace h2:=xhh h2)
   obtain rfl:L=X:=by omega
   obtain rfl:m=Y:=by omega
   try refine xz1 zam ?_
   refine⟨(),trI,To.mk [0] rfl rfl (by decide) ?_ ?_⟩
   ·(try(refine xz1 zam ?_;try exact xtI))
   ·(try(refine xz1 zam ?_;try exact xtI))
  ·rintro _ _
   try refine xz1 zam ?_
   refine zay (fun k:Nat=>⟨[(51,I .i64 k),(50,I .i64 L),(13,I .i64 ((lr L m k:Int)-L)),(12,.own 1),(11,I .i64 m),(10,I .i64 L),(9,I .i64 Y),(8,I .i64 sy),(7,I .i64 X),(6,I .i64 sx),(2,.ptr 0 0 0)],[(0,.blk 46 [I .i64 (lpt a sx sy X Y k).x,I .i64 (lpt a sx sy X Y k).y]),(1,.row 46 2 ((zxs a sx sy X Y k).map za6))],2⟩) (fun k:Nat=>k≤L) (fun k:Nat=>L-k) (0) (Nat.zero_le _) (To.mk [0,1] rfl rfl (by decide) ?_ ?_) ?_
   ·simp(etaStruct := .none)only[push_cast,zab,seval,zns,zz4,za6]
   ·simp(etaStruct := .none)only[push_cast,zab,seval,zns,z9c,Int.sub_self]
   rintro k hk
   try refine xz1 zam ?_
   refine cI (fun h3 => ?_) fun h3 => ?_
   ·have hlt:k<L:=by omega
    obtain⟨ST,SR⟩:=z4h a sx sy X Y k L m hL hm (by omega)
    have hlr:=LR k (by omega)
    have hnr:=NR k (by omega)
    have hnr2:=NR (k+1) (by omega)
    try refine xz1 zam ?_
    refine zmq (fun o:Bool=>⟨[(51,I .i64 k),(50,I .i64 L),(14,B o),(13,I .i64 ((lr L m (k+1):Int)-L)),(12,.own 1),(11,I .i64 m),(10,I .i64 L),(9,I .i64 Y),(8,I .i64 sy),(7,I .i64 X),(6,I .i64 sx),(2,.ptr 0 0 0)],[(0,.blk 46 [I .i64 (lpt a sx sy X Y k).x,I .i64 (lpt a sx sy X Y k).y]),(1,.row 46 2 ((zxs a sx sy X Y k).map za6))],2⟩) (fun o:Bool=>(o=true↔2*L≤lr L m k+2*m)) (fun h4 => ?_) (fun h4 => ?_) ?_
    ·(try replace h4:=xhh h4)
     have e1:(lr L m k:Int)-L+2*m-2*L=(lr L m (k+1):Int)-L:=by rw[SR,if_pos (by omega)];omega
     have e2:decide ((L:Int)≤(lr L m k:Int)-L+2*m)=true:=by simp;omega
     try refine xz3 zam e1 e2 ?_
     refine⟨true,by simp;omega,To.mk [0,1] rfl rfl (by decide) ?_ ?_⟩
     ·(try(refine xz3 zam e1 e2 ?_;try exact xtI))
     ·(try(refine xz3 zam e1 e2 ?_;try exact xtI))
    ·(try replace h4:=xhh h4)
     have e1:(lr L m k:Int)-L+2*m=(lr L m (k+1):Int)-L:=by rw[SR,if_neg (by omega)];omega
     have e2:decide ((L:Int)≤(lr L m (k+1):Int)-L)=false:=by rw[←e1];simp;omega
     try refine xz3 zam e1 e2 ?_
     refine⟨false,by simp;omega,To.mk [0,1] rfl rfl (by decide) ?_ ?_⟩
     ·(try(refine xz3 zam e1 e2 ?_;try exact xtI))
     ·(try(refine xz3 zam e1 e2 ?_;try exact xtI))
    ·rintro o ho
     try refine xz1 zam ?_
     refine zmq (fun _u:Unit=>⟨[(51,I .i64 k),(50,I .i64 L),(14,B o),(13,I .i64 ((lr L m (k+1):Int)-L)),(12,.own 1),(11,I .i64 m),(10,I .i64 L),(9,I .i64 Y),(8,I .i64 sy),(7,I .i64 X),(6,I .i64 sx),(2,.ptr 0 0 0)],[(0,.blk 46 [I .i64 (lpt a sx sy X Y (k+1)).x,I .i64 (lpt a sx sy X Y k).y]),(1,.row 46 2 ((zxs a sx sy X Y k).map za6))],2⟩) (fun _u:Unit=>Tr) (fun h5 => ?_) (fun h5 => ?_) ?_
     ·(try replace h5:=xhh h5)
      rw[ho]at h5
      have e1:(lpt a sx sy X Y k).x+sx=(lpt a sx sy X Y (k+1)).x:=by rw[ST];simp only;rw[if_pos (by omega)]
      try refine xz2 zam e1 ?_
      refine⟨(),trI,To.mk [0,1] rfl rfl (by decide) ?_ ?_⟩
      ·(try(refine xz2 zam e1 ?_;try exact xtI))
      ·(try(refine xz2 zam e1 ?_;try exact xtI))
     ·(try replace h5:=xhh h5)
      rw[Bool.eq_false_iff,ne_eq,ho]at h5
      have e1:(lpt a sx sy X Y k).x=(lpt a sx sy X Y (k+1)).x:=by rw[ST];simp only;rw[if_neg (by omega)]
      try refine xz1 zam ?_
      refine⟨(),trI,To.mk [0,1] rfl rfl (by decide) ?_ ?_⟩
      ·simp(etaStruct := .none)only[push_cast,zab,seval]
       rw[←e1]
       simp(etaStruct := .none)only[push_cast,zab,seval]
      ·(try(refine xz1 zam ?_;try exact xtI))
     ·rintro _ _
      try refine xz1 zam ?_
      refine cI (fun h6 => ?_) fun h6 => ?_
      ·rw[ho]at h6
       have e1:(lpt a sx sy X Y k).y+sy=(lpt a sx sy X Y (k+1)).y:=by rw[ST];simp only;rw[if_pos (by omega)]
       try refine xz2 zam e1 ?_
       refine⟨k+1,by omega,by omega,To.mk [0,3] rfl rfl (by decide) ?_ ?_⟩
       ·(iterate 2((try simp(etaStruct := .none)only[push_cast,zab,seval,zp9,List.map_append,za6]);(try(refine xsu ?_;try exact xtI))))
       ·(try(refine xz2 zam e1 ?_;try exact xtI))
      ·rw[Bool.eq_false_iff,ne_eq,ho]at h6
       have e1:(lpt a sx sy X Y k).y=(lpt a sx sy X Y (k+1)).y:=by rw[ST];simp only;rw[if_neg (by omega)]
       try refine xz1 zam ?_
       refine⟨k+1,by omega,by omega,To.mk [0,3] rfl rfl (by decide) ?_ ?_⟩
       ·iterate 2(try simp(etaStruct := .none)only[push_cast,zab,seval,zp9,List.map_append,za6];try refine xsu ?_)
        rw[←e1]
        exact⟨Wk.refl _,rfl⟩
       ·(try(refine xz1 zam ?_;try exact xtI))
   ·obtain rfl:k=L:=by omega
    try refine xz1 zam ?_
    exact xrz rfl
end Go.Proofs.YtmjbgbmegbkmhaaGreat
namespace Go.Proofs.YtmjbgbmegbkmhaaGreat
set_option linter.all false
open Go.RowKit
theorem zs8 (d:Int) (q:Nat) (hq:q≤d.natAbs) (f:Int):min f (f+d)≤f+d.sign*q∧f+d.sign*q≤max f (f+d):=by
 rcases Int.lt_trichotomy d 0 with h|h|h
 ·rw[Int.sign_eq_neg_one_of_neg h];omega
 ·subst h;simp
 ·rw[Int.sign_eq_one_of_pos h];omega
theorem z9d (a b:Cel) (k:Nat) (hk:k≤max (b.x-a.x).natAbs (b.y-a.y).natAbs) :
 (min a.x b.x≤(lpt a (b.x-a.x).sign (b.y-a.y).sign (b.x-a.x).natAbs (b.y-a.y).natAbs k).x∧(lpt a (b.x-a.x).sign (b.y-a.y).sign (b.x-a.x).natAbs (b.y-a.y).natAbs k).x≤max a.x b.x) ∧
 (min a.y b.y≤(lpt a (b.x-a.x).sign (b.y-a.y).sign (b.x-a.x).natAbs (b.y-a.y).natAbs k).y∧(lpt a (b.x-a.x).sign (b.y-a.y).sign (b.x-a.x).natAbs (b.y-a.y).natAbs k).y≤max a.y b.y):=by
 have ex:a.x+(b.x-a.x)=b.x:=by omega
 have ey:a.y+(b.y-a.y)=b.y:=by omega
 unfold lpt
 split
 ·rename_i h
  have hq:lq (b.x-a.x).natAbs (b.y-a.y).natAbs k≤(b.y-a.y).natAbs:=by
   rcases Nat.eq_zero_or_pos (b.x-a.x).natAbs with h0|h0
   ·have:k=0:=by omega
    subst this;rw[zsc];omega
   ·exact z4g _ _ _ h0 (by omega)
  have w1:=zs8 (b.x-a.x) k (by omega) a.x
  have w2:=zs8 (b.y-a.y) _ hq a.y
  rw[ex]at w1;rw[ey]at w2
  exact⟨w1,w2⟩
 ·rename_i h
  have hq:lq (b.y-a.y).natAbs (b.x-a.x).natAbs k≤(b.x-a.x).natAbs:=z4g _ _ _ (by omega) (by omega)
  have w1:=zs8 (b.y-a.y) k (by omega) a.y
  have w2:=zs8 (b.x-a.x) _ hq a.x
  rw[ey]at w1;rw[ex]at w2
  exact⟨w2,w1⟩
theorem z4l (a b:Cel) (k:Nat) (hk:k≤max (b.x-a.x).natAbs (b.y-a.y).natAbs):(zk1 a b).getD k default=lpt a (b.x-a.x).sign (b.y-a.y).sign (b.x-a.x).natAbs (b.y-a.y).natAbs k:=by
 rw[zad _ _ (by rw[zqa];omega)]
 simp[zk1,zxs]
theorem zux {f:Fld} {c:Cel} (h:zbv f=0) (hc:inF f c=true):zd2 c=true:=by
 obtain⟨h1,h2,_,_⟩:=zbh h
 obtain⟨h3,h4⟩:=inF_iff.1 hc
 unfold zd2;simp;omega
theorem z9f {f:Fld} {a b:Cel} (ha:inF f a=true) (hb:inF f b=true) (k:Nat) (hk:k≤max (b.x-a.x).natAbs (b.y-a.y).natAbs):inF f ((zk1 a b).getD k default)=true:=by
 rw[z4l a b k hk]
 have:=z9d a b k hk
 rw[inF_iff]at ha hb ⊢
 omega
theorem z4k {f:Fld} {a b:Cel} (h:zbv f=0) (ha:inF f a=true) (hb:inF f b=true):(b.x-a.x).natAbs≤39∧(b.y-a.y).natAbs≤39:=by
 obtain⟨h1,h2,_,_⟩:=zbh h
 rw[inF_iff]at ha hb
 omega
def zmt (p:Int):Bool:=decide (p % 3=0)
def zr5 (f:Fld) (a b:Cel):Bool:=(List.range (max (b.x-a.x).natAbs (b.y-a.y).natAbs-1)).all fun k=>zmt (zah f ((zk1 a b).getD (k+1) default))
theorem z8u {f:Fld} {a b:Cel} (h:∀k,0<k→k<max (b.x-a.x).natAbs (b.y-a.y).natAbs→zmt (zah f ((zk1 a b).getD k default))=true):zr5 f a b=true:=by
 unfold zr5
 rw[List.all_eq_true]
 intro k hk
 exact h (k+1) (by omega) (by simp at hk;omega)
theorem z8v {f:Fld} {a b:Cel} {k:Nat} (h0:0<k) (h1:k<max (b.x-a.x).natAbs (b.y-a.y).natAbs) (h:zmt (zah f ((zk1 a b).getD k default))=false):zr5 f a b=false:=by
 unfold zr5
 rw[List.all_eq_false]
 refine⟨k-1,by simp;omega,?_⟩
 rw[show k-1+1=k by omega,h];simp
def zi3 (f:Fld) (a b:Cel):Bool:=zr5 f a b||zr5 f b a
theorem z3p {f:Fld} (h:zbv f=0) {c:Cel} (hc:inF f c=true):0≤zah f c∧zah f c<4:=by
 obtain⟨_,_,_,h4⟩:=zbh h
 obtain⟨_,_,i3,i4,_⟩:=zbm h hc
 have hl:(c.y*f.w+c.x).toNat<f.p.length:=by omega
 unfold zah
 rw[zad _ _ hl]
 exact h4 _ (List.getElem_mem hl)
end Go.Proofs.YtmjbgbmegbkmhaaGreat
namespace Go.Proofs.YtmjbgbmegbkmhaaGreat
set_option linter.all false
open Go.RowKit
set_option maxRecDepth 100000
set_option maxHeartbeats 2000000
theorem z67 (f:Fld) (a b:Cel) (hf:zbv f=0) (ha:inF f a=true) (hb:inF f b=true):Spec Tryz.prog 130 [z45 f,zg6 a,zg6 b] [] (B (zr5 f a b)) []:=by
 have CS:=yam a b (zux hf ha) (zux hf hb)
 have LL:=zqa a b
 have LF:=z4k hf ha hb
 have LI:=fun k hk=>z9f ha hb k hk
 have LT := @z8u f a b
 have LN := @z8v f a b
 have PL:f.p.length≤1600:=(zbm hf ha).2.2.2.2
 generalize zk1 a b=l at CS LL LI LT LN
 obtain⟨L,hL⟩:∃L,L=max (b.x-a.x).natAbs (b.y-a.y).natAbs:=⟨_,rfl⟩
 rw[←hL]at LL LI LT LN
 have hLL:L≤39:=by omega
 clear hL
 refine spB Tryz.func130 45 [.tmp 6] Tryz.results130 ?_
 iterate 2(try simp(etaStruct := .none)only[push_cast,zab,seval,LL,Int.add_sub_cancel];try refine xsu ?_)
 refine caP (CS) ?_
 iterate 2(try simp(etaStruct := .none)only[push_cast,zab,seval,LL,Int.add_sub_cancel];try refine xsu ?_)
 refine cI (fun h1 => ?_) fun h1 => ?_
 ·have hl2:L≤1:=by omega
  have e:=LT (fun k h0 h1=>by omega)
  iterate 2(try simp(etaStruct := .none)only[push_cast,zab,seval,LL,Int.add_sub_cancel];try refine xsu ?_)
  (first|(refine zas rfl (Wk.of ?_);(try simp(etaStruct := .none)only[push_cast,zab,seval]);first|done|(simp[e, *];done)|(simp_all[e];done))|(refine zas rfl ?_;(try simp(etaStruct := .none)only[push_cast,zab,seval]);(try simp[e, *]);(try exact wkc)))
 ·have e3:((l.map za6).take L).drop 1=((l.take L).drop 1).map za6:=by rw[List.map_drop,List.map_take]
  have e4:((l.take L).drop 1).length=L-1:=by simp;omega
  have e5:∀k,k<L-1→((l.take L).drop 1).getD k default=l.getD (k+1) default:=by intro k hk;simp[List.getD_eq_getElem?_getD,List.getElem?_drop,List.getElem?_take,show k+1<L by omega,Nat.add_comm]
  iterate 2(try simp(etaStruct := .none)only[push_cast,zab,seval,LL,Int.add_sub_cancel,e3,e4];try refine xsu ?_)
  refine zay (fun k:Nat=>⟨[(28,I .i64 k),(27,I .i64 (L-1:Nat)),(26,.c (.sl 2 (((l.take L).drop 1).map za6))),(3,.ptr 0 0 0)],[(0,.blk 24 [I .i64 f.w,I .i64 f.h,.c (.sl 1 (f.p.map zac))])],1⟩) (fun k:Nat=>k≤L-1∧∀j,0<j→j≤k→zmt (zah f (l.getD j default))=true) (fun k:Nat=>L-1-k) (0) (⟨Nat.zero_le _,fun j h h'=>by omega⟩) (To.mk [0] rfl rfl (by decide) ?_ ?_) ?_
  ·simp(etaStruct := .none)only[push_cast,zab,seval]
  ·simp(etaStruct := .none)only[push_cast,zab,seval]
  rintro k ⟨hk,hn⟩
  iterate 2(try simp(etaStruct := .none)only[push_cast,zab,seval,LL,Int.add_sub_cancel,e3,e4];try refine xsu ?_)
  refine cI (fun h2 => ?_) fun h2 => ?_
  ·have hlt:k<L-1:=by omega
   have hlt2:k<((l.take L).drop 1).length:=by omega
   have e6:=e5 k hlt
   have hin:=LI (k+1) (by omega)
   have AT:=zxv f (l.getD (k+1) default) (by omega)
   have AV:atV f (l.getD (k+1) default)=(zah f (l.getD (k+1) default),0):=by unfold atV;rw[if_neg (by simp[hf]),if_pos hin]
   rw[AV]at AT
   have p03:=z3p hf hin
   iterate 2(try simp(etaStruct := .none)only[push_cast,zab,seval,LL,Int.add_sub_cancel,e3,e4,zaa _ _ _ hlt2,za6,e6];try refine xsu ?_)
   refine caP (AT) ?_
   iterate 2(try simp(etaStruct := .none)only[push_cast,zab,seval,LL,Int.add_sub_cancel,e3,e4,zaa _ _ _ hlt2,za6,e6];try refine xsu ?_)
   refine cI (fun h3 => ?_) fun h3 => ?_
   ·have hc:zmt (zah f (l.getD (k+1) default))=false:=decide_eq_false (by omega)
    have e:=LN (by omega) (by omega) hc
    iterate 2(try simp(etaStruct := .none)only[push_cast,zab,seval,LL,Int.add_sub_cancel,e3,e4,zaa _ _ _ hlt2,za6,e6];try refine xsu ?_)
    (first|(refine zas rfl (Wk.of ?_);(try simp(etaStruct := .none)only[push_cast,zab,seval]);first|done|(simp[e, *];done)|(simp_all[e];done))|(refine zas rfl ?_;(try simp(etaStruct := .none)only[push_cast,zab,seval]);(try simp[e, *]);(try exact wkc)))
   ·have hc:zmt (zah f (l.getD (k+1) default))=true:=decide_eq_true (by omega)
    iterate 2(try simp(etaStruct := .none)only[push_cast,zab,seval,LL,Int.add_sub_cancel,e3,e4,zaa _ _ _ hlt2,za6,e6];try refine xsu ?_)
    refine⟨k+1,⟨by omega,fun j h0 h1=>by rcases Nat.lt_or_ge k j with h|h;rw[show j=k+1 by omega];exact hc;exact hn j h0 h⟩,by omega,To.mk [0] rfl rfl (by decide) ?_ ?_⟩
    ·(iterate 2((try simp(etaStruct := .none)only[push_cast,zab,seval,LL,Int.add_sub_cancel,e3,e4,zaa _ _ _ hlt2,za6,e6]);(try(refine xsu ?_;try exact xtI))))
    ·(iterate 2((try simp(etaStruct := .none)only[push_cast,zab,seval,LL,Int.add_sub_cancel,e3,e4,zaa _ _ _ hlt2,za6,e6]);(try(refine xsu ?_;try exact xtI))))
  ·have e:=LT (fun j h0 h1=>hn j h0 (by omega))
   iterate 2(try simp(etaStruct := .none)only[push_cast,zab,seval,LL,Int.add_sub_cancel,e3,e4];try refine xsu ?_)
   (first|(refine zas rfl (Wk.of ?_);(try simp(etaStruct := .none)only[push_cast,zab,seval]);first|done|(simp[e, *];done)|(simp_all[e];done))|(refine zas rfl ?_;(try simp(etaStruct := .none)only[push_cast,zab,seval]);(try simp[e, *]);(try exact wkc)))
theorem yhw (f:Fld) (c:Cel):(atV f c).2=if zbv f≠0 then zbv f else if inF f c then 0 else 7:=by
 unfold atV;split
 ·rfl
 ·split<;>rfl
theorem yja {f:Fld} {c:Cel} (h:(atV f c).2=0):zbv f=0∧inF f c=true:=by
 rw[yhw]at h
 split at h
 ·rename_i h1;exact absurd h h1
 ·rename_i h1
  split at h
  ·rename_i h2;exact⟨Decidable.not_not.1 h1,h2⟩
  ·simp at h
def zo9 (f:Fld) (a b:Cel):Bool × Int:=if zbv f≠0 then (false,zbv f)else if inF f a&&inF f b then (zi3 f a b,0)else (false,7)
theorem yb3 (f:Fld) (a b:Cel) (hl:f.p.length≤9223372036854775807):Spec Tryz.prog 159 [z45 f,zg6 a,zg6 b] [] (.tup [B (zo9 f a b).1,I .i64 (zo9 f a b).2]) []:=by
 refine spB Tryz.func159 38 [.tmp 6,.tmp 7] Tryz.results159 ?_
 try refine xst ?_
 refine zay (fun k:Nat=>⟨[(15,I .i64 k),(14,.agg [I .i64 a.x,I .i64 a.y,I .i64 b.x,I .i64 b.y]),(5,.ptr 2 0 0),(4,.ptr 1 0 0),(3,.ptr 0 0 0)],[(0,.blk 24 [I .i64 f.w,I .i64 f.h,.c (.sl 1 (f.p.map zac))]),(1,.blk 46 [I .i64 a.x,I .i64 a.y]),(2,.blk 46 [I .i64 b.x,I .i64 b.y])],3⟩) (fun k:Nat=>k≤2∧(0<k→zbv f=0∧inF f a=true)∧(1<k→inF f b=true)) (fun k:Nat=>2-k) (0) (⟨by omega,fun h=>by omega,fun h=>by omega⟩) (To.mk [0,1,2] rfl rfl (by decide) ?_ ?_) ?_
 ·simp(etaStruct := .none)only[push_cast,zab,seval]
 ·simp(etaStruct := .none)only[push_cast,zab,seval]
 rintro k ⟨hk,q1,q2⟩
 try refine xst ?_
 refine cI (fun h1 => ?_) fun h1 => ?_
 ·obtain⟨c,hc1,hc2,hc3⟩:∃c:Cel,(k=0→c=a)∧(k=1→c=b)∧List.take 2 (List.drop (k*2) [AV.c (PV.v (.int .i64 a.x)),.c (.v (.int .i64 a.y)),.c (.v (.int .i64 b.x)),.c (.v (.int .i64 b.y))]) = [.c (.v (.int .i64 c.x)),.c (.v (.int .i64 c.y))]:=by
   rcases (show k=0∨k=1 by omega)with rfl|rfl
   ·exact⟨a,fun _=>rfl,fun h=>by omega,rfl⟩
   ·exact⟨b,fun h=>by omega,fun _=>rfl,rfl⟩
  try refine xz1 hc3 ?_
  refine caP (zxv f c hl) ?_
  try refine xz1 hc3 ?_
  refine cI (fun h2 => ?_) fun h2 => ?_
  ·have e2:=yhw f c
   have e3:zo9 f a b=(false,(atV f c).2):=by
    unfold zo9
    by_cases hf:zbv f=0
    ·rw[if_neg (by simp[hf])]
     rw[if_neg (by simp[hf])]at e2
     cases hc:inF f c with
     | true=>rw[hc]at e2;exact absurd e2 h2
     | false =>
      rw[hc]at e2
      rw[e2]
      rcases (show k=0∨k=1 by omega)with h|h
      ·rw[←hc1 h,hc];rfl
      ·rw[←hc2 h,hc];simp
    ·rw[if_pos hf]at e2 ⊢;rw[e2]
   try refine xz1 hc3 ?_
   (first|(refine zas rfl (Wk.of ?_);(try simp(etaStruct := .none)only[push_cast,zab,seval]);first|done|(simp[e3, *];done)|(simp_all[e3];done))|(refine zas rfl ?_;(try simp(etaStruct := .none)only[push_cast,zab,seval]);(try simp[e3, *]);(try exact wkc)))
  ·obtain⟨a1,a2⟩:=yja h2
   try refine xz1 hc3 ?_
   refine⟨k+1,⟨by omega,fun _=>⟨a1,by rcases (show k=0∨k=1 by omega)with h|h;rw[←hc1 h];exact a2;exact(q1 (by omega)).2⟩,fun h=>by rw[←hc2 (by omega)];exact a2⟩,by omega,To.mk [0,1,2] rfl rfl (by decide) ?_ ?_⟩
   ·(try(refine xz1 hc3 ?_;try exact xtI))
   ·(try(refine xz1 hc3 ?_;try exact xtI))
 ·obtain⟨hf,ha⟩:=q1 (by omega)
  have hb:=q2 (by omega)
  have e4:zo9 f a b=(zi3 f a b,0):=by unfold zo9;rw[if_neg (by simp[hf]),if_pos (by simp[ha,hb])]
  try refine xst ?_
  refine caP (z67 f a b hf ha hb) ?_
  try refine xst ?_
  refine gcP (fun hcc=>z67 f b a hf hb ha) ?_
  try refine xst ?_
  (first|(refine zas rfl (Wk.of ?_);(try simp(etaStruct := .none)only[push_cast,zab,seval]);first|done|(simp[e4,zi3, *];done)|(simp_all[e4,zi3];done))|(refine zas rfl ?_;(try simp(etaStruct := .none)only[push_cast,zab,seval]);(try simp[e4,zi3, *]);(try exact wkc)))
end Go.Proofs.YtmjbgbmegbkmhaaGreat
namespace Go.Proofs.YtmjbgbmegbkmhaaGreat
set_option linter.all false
open Go.RowKit
set_option maxRecDepth 100000
def z4o (a b:Cel):Nat:=max (a.x-b.x).natAbs (a.y-b.y).natAbs
def zi8 (w:Wld) (x y:Trp):Bool := !decide (x.owner=y.owner)&&decide ((z4o x.c y.c:Int)≤(zba x.kind).blow)&&zi3 w.f x.c y.c
def zly (w:Wld) (b:Blw):Bool:=(zc4 w b.by_).isSome&&(zc4 w b.at_).isSome&&zi8 w ((zc4 w b.by_).getD z6c) ((zc4 w b.at_).getD z6c)
def zk6 (w:Wld) (t:Trp) (b:Blw):Bool:=decide (b.by_=t.id)&&zly w b
def zuz (w:Wld) (l:List Blw) (id:Int) (t:Trp):Int:=match l.find? (zk6 w t)with|some b=>if b.at_=id then (zba t.kind).load else 0|none=>0
def z2d (l:List Int):Int:=l.sum
theorem ztj:∀(l:List Int) (i:Nat) (v:Int),i<l.length→z2d (l.set i v)=z2d l-l.getD i default+v
 | [],i,v,h=>by simp at h
 | a::r,0,v,_=>by simp[z2d];omega
 | a::r,i+1,v,h=>by
  have:=ztj r i v (by simpa using h)
  simp only[z2d,List.set_cons_succ,List.sum_cons,List.getD_cons_succ]at this ⊢
  omega
def zfh (w:Wld) (l:List Blw) (id:Int):Int:=z2d (w.troops.map (zuz w l id))
def Ups (w:Wld):Prop:=∀i j,i<j→j<w.troops.length→(w.troops.getD i default).id<(w.troops.getD j default).id
theorem ybo {w:Wld} (h:zao w=0):Ups w:=by
 intro i j hij hj
 have h2:=(zew h hj).2
 unfold z6b at h2
 have:=(za9 _ _).1 h2 i hij
 simp only[Bool.and_eq_true,decide_eq_true_eq]at this
 exact this.1
theorem Ups.ne {w:Wld} (h:Ups w) {i j:Nat} (hi:i<w.troops.length) (hj:j<w.troops.length) (hne:i≠j):(w.troops.getD i default).id≠(w.troops.getD j default).id:=by
 rcases Nat.lt_or_gt_of_ne hne with h1|h1
 ·have:=h i j h1 hj;omega
 ·have:=h j i h1 hi;omega
theorem zxf {w:Wld} {n:Int} (h:(zc4 w n).isSome=true):∃i,i<w.troops.length∧(w.troops.getD i default).id=n∧(zc4 w n).getD z6c=w.troops.getD i default:=by
 unfold zc4 at *
 obtain⟨t,ht⟩:=Option.isSome_iff_exists.1 h
 have hm:=List.mem_of_find?_eq_some ht
 have hp:=List.find?_some ht
 obtain⟨i,hi,e⟩:=mem_getD.1 hm
 refine⟨i,hi,by rw[e];simpa using hp,by rw[ht,e];rfl⟩
theorem zqk (w:Wld) (l:List Blw) (b:Blw) (id:Int) (t:Trp):zuz w (l ++ [b]) id t=if l.any (zk6 w t)=false∧zk6 w t b=true then (if b.at_=id then (zba t.kind).load else 0)else zuz w l id t:=by
 unfold zuz
 rw[List.find?_append]
 cases h:l.find? (zk6 w t)with
 | some x =>
  have hx:=List.find?_some h
  have hm:=List.mem_of_find?_eq_some h
  have:l.any (zk6 w t)=true:=List.any_eq_true.2 ⟨x,hm,hx⟩
  rw[if_neg (by simp[this])];rfl
 | none =>
  have:l.any (zk6 w t)=false:=by rw[List.any_eq_false];intro x hx;exact List.find?_eq_none.1 h x hx
  rw[this]
  cases hp:zk6 w t b with
  | true=>simp[hp]
  | false=>simp[hp]
theorem z0p (w:Wld) (l:List Blw) (id:Int) (t:Trp) (h:l.any (zk6 w t)=false):zuz w l id t=0:=by
 unfold zuz
 rw[List.find?_eq_none.2 (fun x hx=>by have:=List.any_eq_false.1 h x hx;simpa using this)]
theorem z0t {w:Wld} (hu:Ups w) (l:List Blw) (b:Blw) (id:Int) (h:zly w b=false∨∃i,i<w.troops.length∧(w.troops.getD i default).id=b.by_∧l.any (zk6 w (w.troops.getD i default))=true):zfh w (l ++ [b]) id=zfh w l id:=by
 unfold zfh
 congr 1
 refine List.map_congr_left fun t ht => ?_
 rw[zqk,if_neg]
 rintro⟨h1,h2⟩
 rcases h with h|⟨i,hi,e,h3⟩
 ·unfold zk6 at h2;rw[h]at h2;simp at h2
 ·obtain⟨j,hj,rfl⟩:=mem_getD.1 ht
  by_cases hij:i=j
  ·subst hij;rw[h3]at h1;simp at h1
  ·have:=hu.ne hi hj hij
   unfold zk6 at h2
   simp only[Bool.and_eq_true,decide_eq_true_eq]at h2
   omega
theorem z0s {w:Wld} (hu:Ups w) (l:List Blw) (b:Blw) (id:Int) (hb:zly w b=true) {i:Nat} (hi:i<w.troops.length) (hid:(w.troops.getD i default).id=b.by_) (hn:l.any (zk6 w (w.troops.getD i default))=false) :
 zfh w (l ++ [b]) id=zfh w l id+(if b.at_=id then (zba (w.troops.getD i default).kind).load else 0):=by
 have e:w.troops.map (zuz w (l ++ [b]) id)=(w.troops.map (zuz w l id)).set i (if b.at_=id then (zba (w.troops.getD i default).kind).load else 0):=by
  refine List.ext_getElem (by simp) fun j h1 h2 => ?_
  rw[List.length_map]at h1
  rw[List.getElem_map,List.getElem_set,zqk,←zad _ _ h1]
  by_cases hij:i=j
  ·subst hij
   rw[if_pos rfl,if_pos ⟨hn,by unfold zk6;rw[hb,hid];simp⟩]
  ·have:=hu.ne hi h1 hij
   rw[if_neg hij,if_neg,List.getElem_map,←zad _ _ h1]
   rintro⟨_,h3⟩
   unfold zk6 at h3
   simp only[Bool.and_eq_true,decide_eq_true_eq]at h3
   omega
 unfold zfh
 rw[e,ztj _ _ _ (by simpa using hi)]
 have:(w.troops.map (zuz w l id)).getD i default=0:=by
  rw[zad _ _ (by simpa using hi),List.getElem_map,←zad _ _ hi]
  exact z0p _ _ _ _ hn
 omega
theorem zu1 (w:Wld) (id:Int):zfh w [] id=0:=by
 unfold zfh z2d
 induction w.troops with
 | nil=>rfl
 | cons a r ih=>rw[List.map_cons,List.sum_cons,ih];rfl
def zn3 (w:Wld) (l:List Blw):List Int:=w.troops.map fun t=>zfh w l t.id
def zbe (w:Wld) (l:List Blw):Int:=if zao w≠0 then zao w else if 200<l.length then 2 else 0
def zg0 (w:Wld) (l:List Blw):List Int:=if zbe w l=0 then zn3 w l else []
def zdi (w:Wld) (l:List Blw) (t:Trp):Trp:={ t with life:=t.life-zfh w l t.id }
def zhs (w:Wld) (l:List Blw):List Trp:=(w.troops.map (zdi w l)).filter fun t=>decide (0<t.life)
def z4w (w:Wld) (l:List Blw):List Int:=((w.troops.map (zdi w l)).filter fun t => !decide (0<t.life)).map (·.id)
def zec (w:Wld) (l:List Blw):Wld:={ w with troops:=zhs w l }
end Go.Proofs.YtmjbgbmegbkmhaaGreat
namespace Go.Proofs.YtmjbgbmegbkmhaaGreat
set_option linter.all false
open Go.RowKit
set_option maxRecDepth 100000
set_option maxHeartbeats 400000
theorem znv (a b:Cel):(if (b.x-a.x).natAbs<(b.y-a.y).natAbs then ((b.y-a.y).natAbs:Int)else ((b.x-a.x).natAbs:Int))=(z4o a b:Int):=by
 unfold z4o;split<;>omega
theorem znu (a b:Cel) (ha:zd2 a=true) (hb:zd2 b=true):Spec Tryz.prog 158 [zg6 a,zg6 b] [] (.tup [I .i64 (z4o a b:Nat),I .i64 (((b.x-a.x).natAbs+(b.y-a.y).natAbs:Nat):Int),I .i64 0]) []:=by
 have ha1:=ha
 have hb1:=hb
 unfold zd2 at ha1 hb1
 rw[decide_eq_true_eq]at ha1 hb1
 refine spB Tryz.func158 43 [.tmp 4,.tmp 5,.tmp 6] Tryz.results158 ?_
 try refine xst ?_
 refine caP (zug a ⟨by omega,by omega⟩ ⟨by omega,by omega⟩) ?_
 try refine xst ?_
 refine gcP (fun hcc=>zug b ⟨by omega,by omega⟩ ⟨by omega,by omega⟩) ?_
 try refine xst ?_
 refine cI (fun h1 => ?_) fun h1 => ?_
 ·rw[ha,hb]at h1;simp at h1
 ·try refine xst ?_
  refine caP (ztp (b.x-a.x) ⟨by omega,by omega⟩ (by omega)) ?_
  try refine xst ?_
  refine caP (ztp (b.y-a.y) ⟨by omega,by omega⟩ (by omega)) ?_
  try refine xst ?_
  (first|(refine zas rfl (Wk.of ?_);(try simp(etaStruct := .none)only[push_cast,zab,seval]);first|done|(simp[znv, *];done)|(simp_all[znv];done))|(refine zas rfl ?_;(try simp(etaStruct := .none)only[push_cast,zab,seval]);(try simp[znv, *]);(try exact wkc)))
theorem z25 {f:Fld} {a b:Cel} (hf:zbv f=0) (ha:inF f a=true) (hb:inF f b=true):zo9 f a b=(zi3 f a b,0):=by
 unfold zo9;rw[if_neg (by simp[hf]),if_pos (by simp[ha,hb])]
theorem zuh {f:Fld} {c:Cel} (hf:zbv f=0) (h:inF f c=true):zd2 c=true:=by
 have h1:=inF_iff.1 h
 obtain⟨h2,h3,_⟩:=zbh hf
 unfold zd2
 rw[decide_eq_true_eq];omega
theorem z5h (w:Wld) (x y:Trp) (hl:zfm w) (hw:zao w=0) (hx:x∈w.troops) (hy:y∈w.troops):Spec Tryz.prog 131 [zdf w,ya4 x,ya4 y] [] (B (zi8 w x y)) []:=by
 obtain⟨hf,_⟩:=zc6 hw
 have ox:=zoy hw hx
 have oy:=zoy hw hy
 have ix:=(ground_iff.1 ox.at_).1
 have iy:=(ground_iff.1 oy.at_).1
 have es:=z25 hf ix iy
 refine spB Tryz.func131 51 [.tmp 6] Tryz.results131 ?_
 try refine xst ?_
 refine caP (zgp x.kind) ?_
 try refine xst ?_
 refine caP (znu x.c y.c (zuh hf ix) (zuh hf iy)) ?_
 try refine xst ?_
 refine cI (fun h1 => ?_) fun h1 => ?_
 ·have e:zi8 w x y=false:=by
   unfold zi8
   rcases h1 with h|h
   ·simp[h]
   ·simp only[Bool.and_eq_false_iff];exact .inl (.inr (by simpa using h))
  try refine xst ?_
  (first|(refine zas rfl (Wk.of ?_);(try simp(etaStruct := .none)only[push_cast,zab,seval]);first|done|(simp[e, *];done)|(simp_all[e];done))|(refine zas rfl ?_;(try simp(etaStruct := .none)only[push_cast,zab,seval]);(try simp[e, *]);(try exact wkc)))
 ·have e:zi8 w x y=zi3 w.f x.c y.c:=by
   unfold zi8
   rw[decide_eq_false h1.1,decide_eq_true h1.2];simp
  try refine xst ?_
  refine caP (yb3 w.f x.c y.c hl.1) ?_
  try refine xst ?_
  rw[es]
  (first|(refine zas rfl (Wk.of ?_);(try simp(etaStruct := .none)only[push_cast,zab,seval]);first|done|(simp[e, *];done)|(simp_all[e];done))|(refine zas rfl ?_;(try simp(etaStruct := .none)only[push_cast,zab,seval]);(try simp[e, *]);(try exact wkc)))
def IdxM (w:Wld) (k:Nat) (es:List (List Int × Int)):Prop:=(∀i:Int,zkv [i] es=(w.troops.take k).any fun t=>decide (t.id=i))∧∀j,j<k→zcw [(w.troops.getD j default).id] es=(j:Int)
theorem IdxM.step {w:Wld} (hu:Ups w) {k:Nat} {es:List (List Int × Int)} (h:IdxM w k es) (hk:k<w.troops.length):IdxM w (k+1) (zf4 [(w.troops.getD k default).id] (k:Int) es):=by
 refine⟨fun i => ?_,fun j hj => ?_⟩
 ·rw[zku,zaq _ _ hk,List.any_append,h.1 i]
  simp only[List.any_cons,List.any_nil,Bool.or_false,List.cons.injEq,and_true]
  by_cases hi:i=(w.troops.getD k default).id
  ·rw[if_pos hi,decide_eq_true hi.symm,Bool.or_true]
  ·rw[if_neg hi,decide_eq_false (Ne.symm hi),Bool.or_false]
 ·rw[zb2]
  by_cases hjk:j=k
  ·subst hjk;rw[if_pos rfl]
  ·have:=hu j k (by omega) hk
   rw[if_neg (fun h=>by have:=(List.cons.inj h).1;omega)]
   exact h.2 j (by omega)
theorem zz2 {k:List Int} {es:List (List Int × Int)} (h:zkv k es=false):zcw k es=0:=by
 unfold zkv at h;unfold zcw
 cases hm:zcf k 0 es with
 | none=>rfl
 | some p=>rw[hm]at h;simp at h
theorem IdxM.get {w:Wld} {es:List (List Int × Int)} (h:IdxM w w.troops.length es) (hpos:0<w.troops.length) (a:Int):∃i:Nat,i<w.troops.length∧zcw [a] es=(i:Int)∧zkv [a] es=(zc4 w a).isSome∧((zc4 w a).isSome=true→(w.troops.getD i default).id=a∧(zc4 w a).getD z6c=w.troops.getD i default):=by
 have h1:=h.1 a
 rw[List.take_length]at h1
 cases hf:zc4 w a with
 | none =>
  have e:zkv [a] es=false:=by
   rw[h1,List.any_eq_false]
   intro x hx
   have:=List.find?_eq_none.1 hf x hx
   simpa using this
  exact⟨0,hpos,zz2 e,e,fun h=>by simp at h⟩
 | some t =>
  obtain⟨i,hi,e1,e2⟩:=zxf (w:=w) (n:=a) (by rw[hf];rfl)
  refine⟨i,hi,?_,?_,fun _=>⟨e1,by rw[←hf];exact e2⟩⟩
  ·rw[←e1];exact h.2 i hi
  ·rw[h1,List.any_eq_true.2 ⟨w.troops.getD i default,za1 _ _ hi,by simpa using e1⟩];rfl
theorem zk3 (k:Int):0≤(zba k).load∧(zba k).load≤4:=by unfold zba;split<;>(try split)<;>simp
theorem z4v {w:Wld} {l:List Blw} {harm:List Int} (hl:harm.length=w.troops.length) (h:∀j,j<w.troops.length→harm.getD j default=zfh w l (w.troops.getD j default).id):harm=zn3 w l:=by
 refine List.ext_getElem (by unfold zn3;rw[List.length_map];exact hl) fun j h1 h2 => ?_
 have:=h j (by omega)
 rw[zad _ _ h1,zad _ _ (by omega)]at this
 simp only[zn3,List.getElem_map];exact this
theorem ygf {l:List Bool} {i:Nat} (v:Bool) (p:Nat) (hi:i<l.length):(l.set i v).getD p default=if p=i then v else l.getD p default:=by
 by_cases h:p=i
 ·subst h;rw[if_pos rfl,zad _ _ (by simpa using hi)];simp
 ·rw[if_neg h]
  simp only[List.getD_eq_getElem?_getD,List.getElem?_set,if_neg (Ne.symm h)]
theorem yb2 {l:List Int} {i:Nat} (v:Int) (p:Nat) (hi:i<l.length):(l.set i v).getD p default=if p=i then v else l.getD p default:=by
 by_cases h:p=i
 ·subst h;rw[if_pos rfl,zad _ _ (by simpa using hi)];simp
 ·rw[if_neg h]
  simp only[List.getD_eq_getElem?_getD,List.getElem?_set,if_neg (Ne.symm h)]
theorem yap (w:Wld) (l:List Blw) (hl:zfm w) (hll:l.length≤9223372036854775807) (h:zbe w l≠0):Spec Tryz.prog 88 [zdf w,.c (.sl 2 (l.map zek))] [] (.tup [.c (.sl 1 ((zg0 w l).map zac)),I .i64 (zbe w l)]) []:=by
 have e2:zg0 w l = []:=by unfold zg0;rw[if_neg h]
 refine spB Tryz.func88 120 [.tmp 4,.tmp 5] Tryz.results88 ?_
 try refine xst ?_
 refine caP (zd3 w hl) ?_
 try refine xst ?_
 refine cI (fun h1 => ?_) fun h1 => ?_
 ·have e:zbe w l=zao w:=by unfold zbe;rw[if_pos h1]
  try refine xst ?_
  (first|(refine zas rfl (Wk.of ?_);(try simp(etaStruct := .none)only[push_cast,zab,seval]);first|done|(simp[e,e2, *];done)|(simp_all[e,e2];done))|(refine zas rfl ?_;(try simp(etaStruct := .none)only[push_cast,zab,seval]);(try simp[e,e2, *]);(try exact wkc)))
 ·try refine xst ?_
  refine cI (fun h2 => ?_) fun h2 => ?_
  ·have e:zbe w l=2:=by unfold zbe;rw[if_neg (by simpa using h1),if_pos (by omega)]
   try refine xst ?_
   (first|(refine zas rfl (Wk.of ?_);(try simp(etaStruct := .none)only[push_cast,zab,seval]);first|done|(simp[e,e2, *];done)|(simp_all[e,e2];done))|(refine zas rfl ?_;(try simp(etaStruct := .none)only[push_cast,zab,seval]);(try simp[e,e2, *]);(try exact wkc)))
  ·exact absurd (by unfold zbe;rw[if_neg (by simpa using h1),if_neg (by omega)]) h
end Go.Proofs.YtmjbgbmegbkmhaaGreat
namespace Go.Proofs.YtmjbgbmegbkmhaaGreat
set_option linter.all false
open Go.RowKit
set_option maxRecDepth 100000
set_option maxHeartbeats 1000000
def zbt (x:Nod):List PV := [pI x.c.x,pI x.c.y,pI x.far,pI x.all]
theorem zpz (x:Nod):zbt x = [pI x.c.x,pI x.c.y,pI x.far,pI x.all]:=rfl
abbrev yba (x:Nod):AV := .agg [I .i64 x.c.x,I .i64 x.c.y,I .i64 x.far,I .i64 x.all]
theorem zpx (l:List Nod):Spec Tryz.prog 190 [.c (.sl 4 (l.map zbt))] [] (I .i64 l.length) []:=by
 refine spB Tryz.func190 5 [.tmp 2] Tryz.results190 ?_
 try refine xst ?_
 exact xrz rfl
theorem znk (l:List Nod) (i j:Nat) (hi:i<l.length) (hj:j<l.length):Spec Tryz.prog 216 [.c (.sl 4 (l.map zbt)),I .i64 i,I .i64 j] [] (B (decide ((l.getD i default).all<(l.getD j default).all))) []:=by
 refine spB Tryz.func216 18 [.tmp 6] Tryz.results216 ?_
 try refine xz3 (gd hi) (gd hj) zpz ?_
 (try(refine⟨by kernel_rfl,?_⟩))
 try refine xz3 (gd hi) (gd hj) zpz ?_
 exact xrz rfl
theorem zng (l:List Nod) (i j:Nat) (hi:i<l.length) (hj:j<l.length):Spec Tryz.prog 217 [.own 0,I .i64 i,I .i64 j] [.row 327 4 (l.map zbt)] (.tup []) [.row 327 4 ((zcz l i j).map zbt)]:=by
 have hj2:j<(l.set i (l.getD j default)).length:=by rw[List.length_set];exact hj
 refine spB Tryz.func217 20 [] Tryz.results217 ?_
 try refine xz3 (gd hi) (gd hj) zpz ?_
 (try(refine⟨by kernel_rfl,?_⟩))
 try refine xz3 (gd hi) (gd hj) zpz ?_
 refine zb6 [0] rfl rfl (by decide) ⟨?_,trivial⟩ trivial ?_<;>simp(etaStruct := .none)only[push_cast,zab,seval,zcz,←List.map_set,List.length_map,List.map_set,zbt]
theorem z3w (f:Fld) (b:Cel) (far:List Int)(l:List Nod) (x:Nod) (hl:l.length≤1000000):Spec Tryz.prog 219 [.ptr 0 0 6,.ifc 327 (yba x)] [.blk 300 [I .i64 f.w,I .i64 f.h,.c (.sl 1 (f.p.map zac)),I .i64 b.x,I .i64 b.y,.own 1,.own 2],.row 3 1 (far.map zac),.row 327 4 (l.map zbt)] (.tup []) [.blk 300 [I .i64 f.w,I .i64 f.h,.c (.sl 1 (f.p.map zac)),I .i64 b.x,I .i64 b.y,.own 1,.own 3],.row 3 1 (far.map zac),.dead,.row 327 4 ((l ++ [x]).map zbt)]:=by
 refine spB Tryz.func219 13 [] Tryz.results219 ?_
 try refine xst ?_
 (try(refine⟨by kernel_rfl,?_⟩))
 try refine xst ?_
 refine zb6 [0,1,2,31] rfl rfl (by decide) ⟨?_,?_,?_,?_,trivial⟩ trivial ?_<;>simp(etaStruct := .none)only[push_cast,zab,seval,List.map_append,zbt]
theorem z8t (f:Fld) (b:Cel) (far:List Int)(l:List Nod) (n:Nat) (hn:l.length=n+1) (hl:l.length≤1000001):Spec Tryz.prog 218 [.ptr 0 0 6] [.blk 300 [I .i64 f.w,I .i64 f.h,.c (.sl 1 (f.p.map zac)),I .i64 b.x,I .i64 b.y,.own 1,.own 2],.row 3 1 (far.map zac),.row 327 4 (l.map zbt)] (.ifc 327 (yba (l.getD n default))) [.blk 300 [I .i64 f.w,I .i64 f.h,.c (.sl 1 (f.p.map zac)),I .i64 b.x,I .i64 b.y,.own 1,.own 3],.row 3 1 (far.map zac),.dead,.row 327 4 ((l.take n).map zbt)]:=by
 have hlt:n<l.length:=by omega
 have e1:IntKind.i64.wrap ((l.length:Int)-1)=(n:Int):=by rw[zak _ (by omega) (by omega)];omega
 refine spB Tryz.func218 23 [.tmp 2] Tryz.results218 ?_
 try refine xz3 e1 (gd hlt) zpz ?_
 refine zpm (To.cutC 0 6 2 n 327 4 300 _ (l.map zbt) rfl rfl rfl (by rw[List.length_map];omega)) ?_
 refine zb6 [0,1,2,4] rfl rfl (by decide) ⟨?_,?_,?_,?_,trivial⟩ trivial ?_<;>simp(etaStruct := .none)only[push_cast,zab,seval,List.map_take,List.set_cons_zero,List.set_cons_succ]
theorem yci (f:Fld) (b:Cel) (far:List Int)(l:List Nod) (j:Nat) (hj:j<l.length) (hl:l.length≤1000001):Spec Tryz.prog 196 [.ifc 325 (.ptr 0 0 6),I .i64 j] [.blk 300 [I .i64 f.w,I .i64 f.h,.c (.sl 1 (f.p.map zac)),I .i64 b.x,I .i64 b.y,.own 1,.own 2],.row 3 1 (far.map zac),.row 327 4 (l.map zbt)] (.tup []) [.blk 300 [I .i64 f.w,I .i64 f.h,.c (.sl 1 (f.p.map zac)),I .i64 b.x,I .i64 b.y,.own 1,.own 2],.row 3 1 (far.map zac),.row 327 4 ((hup Nod.all l j).map zbt)]:=by
 refine spB Tryz.func196 23 [] Tryz.results196 ?_
 try refine xz1 zd5 ?_
 refine zay (fun x:List Nod × Nat=>⟨[(1,I .i64 x.2),(0,.ifc 325 (.ptr 0 0 6))],[(0,.blk 300 [I .i64 f.w,I .i64 f.h,.c (.sl 1 (f.p.map zac)),I .i64 b.x,I .i64 b.y,.own 1,.own 2]),(1,.row 3 1 (far.map zac)),(2,.row 327 4 (x.1.map zbt))],3⟩) (fun x:List Nod × Nat=>x.2<x.1.length∧x.1.length≤1000001∧hup Nod.all x.1 x.2=hup Nod.all l j) (fun x:List Nod × Nat=>x.2) ((l,j)) (⟨hj,hl,rfl⟩) (To.mk [0,1,2] rfl rfl (by decide) ?_ ?_) ?_
 ·simp(etaStruct := .none)only[push_cast,zab,seval]
 ·simp(etaStruct := .none)only[push_cast,zab,seval]
 rintro⟨m,i⟩ ⟨hi,hm,hu⟩
 simp only at hi hm hu
 have lp:par i≤i:=by simp only[par];omega
 have hp:par i<m.length:=by omega
 try refine xz1 zd5 ?_
 refine zk9 (fun hcc=>znk m i (par i) hi hp) (WkL.refl _) rfl (by intro hc;(try simp(etaStruct := .none)only[push_cast,zab,seval]);(try simp_all)) ?_
 try refine xz1 zd5 ?_
 refine cI (fun h1 => ?_) fun h1 => ?_
 ·have e:hup Nod.all m i=m:=by
   rw[hup,if_pos]
   rcases h1 with h|h
   ·exact .inl (by omega)
   ·exact .inr (by omega)
  rw[←hu,e]
  try refine xz1 zd5 ?_
  refine zb6 [0,1,2] rfl rfl (by decide) ⟨?_,?_,?_,trivial⟩ trivial ?_<;>simp(etaStruct := .none)only[push_cast,zab,seval]
 ·have e:hup Nod.all m i=hup Nod.all (zcz m (par i) i) (par i):=by rw[hup,if_neg];rintro (h|h)<;>omega
  have lt:par i<i:=by omega
  try refine xz1 zd5 ?_
  refine caM [2] (zng m (par i) i hp hi) ?_
  try refine xz1 zd5 ?_
  refine⟨(zcz m (par i) i,par i),⟨by rw[zan];exact hp,by rw[zan];exact hm,by rw[←hu,e]⟩,lt,To.mk [0,1,2] rfl rfl (by decide) ?_ ?_⟩
  ·(try(refine xz1 zd5 ?_;try exact xtI))
  ·(try(refine xz1 zd5 ?_;try exact xtI))
theorem z30 (f:Fld) (b:Cel) (far:List Int)(l:List Nod) (x:Nod) (hl:l.length≤1000000):Spec Tryz.prog 189 [.ifc 325 (.ptr 0 0 6),.ifc 327 (yba x)] [.blk 300 [I .i64 f.w,I .i64 f.h,.c (.sl 1 (f.p.map zac)),I .i64 b.x,I .i64 b.y,.own 1,.own 2],.row 3 1 (far.map zac),.row 327 4 (l.map zbt)] (.tup []) [.blk 300 [I .i64 f.w,I .i64 f.h,.c (.sl 1 (f.p.map zac)),I .i64 b.x,I .i64 b.y,.own 1,.own 3],.row 3 1 (far.map zac),.dead,.row 327 4 ((zdh Nod.all l x).map zbt)]:=by
 have hlen:(l ++ [x]).length=l.length+1:=by simp
 have e1:IntKind.i64.wrap (((l ++ [x]).length:Int)-1)=(l.length:Int):=by rw[zak _ (by omega) (by omega)];omega
 refine spB Tryz.func189 12 [] Tryz.results189 ?_
 try refine xz1 e1 ?_
 refine caM [0,1,2] (z3w f b far l x hl) ?_
 try refine xz1 e1 ?_
 refine zcl (zpx (l ++ [x])) (WkL.refl _) rfl ?_
 try refine xz1 e1 ?_
 refine caM [0,1,3] (yci f b far (l ++ [x]) l.length (by omega) (by omega)) ?_
 try refine xz1 e1 ?_
 refine zb6 [0,1,2,3] rfl rfl (by decide) ⟨?_,?_,?_,?_,trivial⟩ trivial ?_<;>simp(etaStruct := .none)only[push_cast,zab,seval,zdh]
theorem z84 (f:Fld) (b:Cel) (far:List Int)(l:List Nod) (n:Nat) (hn:n≤l.length) (hl:l.length≤1000001):Spec Tryz.prog 197 [.ifc 325 (.ptr 0 0 6),I .i64 0,I .i64 n] [.blk 300 [I .i64 f.w,I .i64 f.h,.c (.sl 1 (f.p.map zac)),I .i64 b.x,I .i64 b.y,.own 1,.own 2],.row 3 1 (far.map zac),.row 327 4 (l.map zbt)] .undef [.blk 300 [I .i64 f.w,I .i64 f.h,.c (.sl 1 (f.p.map zac)),I .i64 b.x,I .i64 b.y,.own 1,.own 2],.row 3 1 (far.map zac),.row 327 4 ((hdn Nod.all l 0 n).map zbt)]:=by
 refine spB Tryz.func197 48 [.tmp 6] Tryz.results197 ?_
 try refine xst ?_
 refine zay (fun x:List Nod × Nat=>⟨[(7,I .i64 x.2),(2,I .i64 n),(1,I .i64 0),(0,.ifc 325 (.ptr 0 0 6))],[(0,.blk 300 [I .i64 f.w,I .i64 f.h,.c (.sl 1 (f.p.map zac)),I .i64 b.x,I .i64 b.y,.own 1,.own 2]),(1,.row 3 1 (far.map zac)),(2,.row 327 4 (x.1.map zbt))],3⟩) (fun x:List Nod × Nat=>x.2≤n∧n≤x.1.length∧x.1.length≤1000001∧hdn Nod.all x.1 x.2 n=hdn Nod.all l 0 n) (fun x:List Nod × Nat=>n-x.2) ((l,0)) (⟨Nat.zero_le _,hn,hl,rfl⟩) (To.mk [0,1,2] rfl rfl (by decide) ?_ ?_) ?_
 ·simp(etaStruct := .none)only[push_cast,zab,seval]
 ·simp(etaStruct := .none)only[push_cast,zab,seval]
 rintro⟨m,i⟩ ⟨hi,hm,hm2,hu⟩
 simp only at hi hm hm2 hu
 obtain⟨a,ha⟩:∃a:Nat,a=2*i+1:=⟨_,rfl⟩
 obtain⟨b,hb⟩:∃b:Nat,b=2*i+2:=⟨_,rfl⟩
 have e1:IntKind.i64.wrap (IntKind.i64.wrap (2*(i:Int))+1)=(a:Int):=by rw[zak (2*_) (by omega) (by omega),zak _ (by omega) (by omega)];omega
 have e2:IntKind.i64.wrap ((a:Int)+1)=(b:Int):=by rw[zak _ (by omega) (by omega)];omega
 simp(etaStruct := .none)only[push_cast,zab,seval,e1,e2]
 try refine xst ?_
 refine cI (fun h1 => ?_) fun h1 => ?_
 ·have e:hdn Nod.all m i n=m:=by rw[hdn,if_pos];exact .inl (by omega)
  rw[←hu,e]
  try refine xst ?_
  refine zb6 [0,1,2] rfl rfl (by decide) ⟨?_,?_,?_,trivial⟩ trivial (Wk.undef _)<;>simp(etaStruct := .none)only[push_cast,zab,seval]
 ·try refine xz2 e1 e2 ?_
  refine zk9 (fun hcc=>znk m b a (by simp only[decide_eq_true_eq]at hcc;omega) (by omega)) (WkL.refl _) rfl (by intro hc;(try simp(etaStruct := .none)only[push_cast,zab,seval]);(try simp_all)) ?_
  try refine xz2 e1 e2 ?_
  refine cI (fun h2 => ?_) fun h2 => ?_
  ·have ek:kid Nod.all m i n=b:=by unfold kid;rw[←ha,←hb,if_pos ⟨by omega,h2.2⟩]
   try refine xz2 e1 e2 ?_
   refine zcl (znk m b i (by omega) (by omega)) (WkL.refl _) rfl ?_
   try refine xz2 e1 e2 ?_
   refine cI (fun h3 => ?_) fun h3 => ?_
   ·have e:hdn Nod.all m i n=m:=by rw[hdn,if_pos];rw[ek];exact .inr (by omega)
    rw[←hu,e]
    try refine xz2 e1 e2 ?_
    refine zb6 [0,1,2] rfl rfl (by decide) ⟨?_,?_,?_,trivial⟩ trivial (Wk.undef _)<;>simp(etaStruct := .none)only[push_cast,zab,seval]
   ·have e:hdn Nod.all m i n=hdn Nod.all (zcz m i b) b n:=by rw[hdn,if_neg,ek];rw[ek];rintro (h|h)<;>omega
    try refine xz2 e1 e2 ?_
    refine caM [2] (zng m i b (by omega) (by omega)) ?_
    try refine xz2 e1 e2 ?_
    refine⟨(zcz m i b,b),⟨by simp only;omega,by rw[zan];exact hm,by rw[zan];exact hm2,by rw[←hu,e]⟩,by simp only;omega,To.mk [0,1,2] rfl rfl (by decide) ?_ ?_⟩
    ·(try(refine xz2 e1 e2 ?_;try exact xtI))
    ·(try(refine xz2 e1 e2 ?_;try exact xtI))
  ·have ek:kid Nod.all m i n=a:=by unfold kid;rw[←ha,←hb,if_neg (fun h=>by have:=h.1;have:=h.2;omega)]
   try refine xz2 e1 e2 ?_
   refine zcl (znk m a i (by omega) (by omega)) (WkL.refl _) rfl ?_
   try refine xz2 e1 e2 ?_
   refine cI (fun h4 => ?_) fun h4 => ?_
   ·have e:hdn Nod.all m i n=m:=by rw[hdn,if_pos];rw[ek];exact .inr (by omega)
    rw[←hu,e]
    try refine xz2 e1 e2 ?_
    refine zb6 [0,1,2] rfl rfl (by decide) ⟨?_,?_,?_,trivial⟩ trivial (Wk.undef _)<;>simp(etaStruct := .none)only[push_cast,zab,seval]
   ·have e:hdn Nod.all m i n=hdn Nod.all (zcz m i a) a n:=by rw[hdn,if_neg,ek];rw[ek];rintro (h|h)<;>omega
    try refine xz2 e1 e2 ?_
    refine caM [2] (zng m i a (by omega) (by omega)) ?_
    try refine xz2 e1 e2 ?_
    refine⟨(zcz m i a,a),⟨by simp only;omega,by rw[zan];exact hm,by rw[zan];exact hm2,by rw[←hu,e]⟩,by simp only;omega,To.mk [0,1,2] rfl rfl (by decide) ?_ ?_⟩
    ·(try(refine xz2 e1 e2 ?_;try exact xtI))
    ·(try(refine xz2 e1 e2 ?_;try exact xtI))
theorem z82 (f:Fld) (b:Cel) (far:List Int)(l:List Nod) (h0:0<l.length) (hl:l.length≤1000001):Spec Tryz.prog 191 [.ifc 325 (.ptr 0 0 6)] [.blk 300 [I .i64 f.w,I .i64 f.h,.c (.sl 1 (f.p.map zac)),I .i64 b.x,I .i64 b.y,.own 1,.own 2],.row 3 1 (far.map zac),.row 327 4 (l.map zbt)] (.ifc 327 (yba (l.getD 0 default))) [.blk 300 [I .i64 f.w,I .i64 f.h,.c (.sl 1 (f.p.map zac)),I .i64 b.x,I .i64 b.y,.own 1,.own 3],.row 3 1 (far.map zac),.dead,.row 327 4 ((zfd Nod.all l).map zbt)]:=by
 obtain⟨n,hn⟩:∃n,l.length=n+1:=⟨l.length-1,by omega⟩
 have e1:IntKind.i64.wrap ((l.length:Int)-1)=(n:Int):=by rw[zak _ (by omega) (by omega)];omega
 have e2:=zqj Nod.all l h0
 have e3:zfd Nod.all l=(hdn Nod.all (zcz l 0 n) 0 n).take n:=by unfold zfd;rw[hn];rfl
 rw[hn,Nat.add_sub_cancel]at e2
 rw[←e2,e3]
 refine spB Tryz.func191 15 [.tmp 2] Tryz.results191 ?_
 try refine xz1 e1 ?_
 refine zcl (zpx l) (WkL.refl _) rfl ?_
 try refine xz1 e1 ?_
 refine caM [2] (zng l 0 n h0 (by omega)) ?_
 try refine xz1 e1 ?_
 refine caM [0,1,2] (z84 f b far (zcz l 0 n) n (by rw[zan];omega) (by rw[zan];omega)) ?_
 try refine xz1 e1 ?_
 refine caM [0,1,2] (z8t f b far (hdn Nod.all (zcz l 0 n) 0 n) n (by rw[zn2,zan];exact hn) (by rw[zn2,zan];exact hl)) ?_
 try refine xz1 e1 ?_
 refine zb6 [0,1,2,3] rfl rfl (by decide) ⟨?_,?_,?_,?_,trivial⟩ trivial ?_<;>simp(etaStruct := .none)only[push_cast,zab,seval]
theorem zfl (n:Nat) (h:n<18446744073709551616):IntKind.u64.wrap (n:Int)=n:=by rw[IntKind.wrap_u64];omega
theorem zgo (n:Nat) (h:n<4294967296):bits .and .u64 (n:Int) 4294967295=(n:Int):=by
 show IntKind.u64.wrap ((BitVec.ofInt 64 (n:Int) &&& BitVec.ofInt 64 ((4294967295:Nat):Int)).toNat:Nat)=_
 rw[BitVec.toNat_and,BitVec.ofInt_natCast,BitVec.ofInt_natCast,BitVec.toNat_ofNat,BitVec.toNat_ofNat,Nat.mod_eq_of_lt (show n<2 ^ 64 by omega),Nat.mod_eq_of_lt (show 4294967295<2 ^ 64 by decide)]
 have:n &&& 4294967295=n:=by rw[show (4294967295:Nat)=2 ^ 32-1 from rfl,Nat.and_two_pow_sub_one_eq_mod,Nat.mod_eq_of_lt (by omega)]
 rw[this]
 exact zfl n (by omega)
theorem z85 (n:Nat) (h:n≤1600):Spec Tryz.prog 195 [.c (.v (.int .u64 1)),.c (.v (.int .u64 n))] [] (.tup [.c (.v (.int .u64 0)),.c (.v (.int .u64 n))]) []:=by
 have a1:=zgo n (by omega)
 have a2:bits .and .u64 1 4294967295=1:=zgo 1 (by decide)
 have a3:bits .and .u64 0 4294967295=0:=zgo 0 (by decide)
 have w1:∀x:Int,0≤x→x≤1600→IntKind.u64.wrap x=x:=fun x h1 h2=>by
  obtain⟨k,rfl⟩:=Int.eq_ofNat_of_zero_le h1
  exact zfl k (by omega)
 have d1:(n:Int).fdiv 4294967296=0:=by rw[Int.fdiv_eq_ediv_of_nonneg _ (by decide)];omega
 have d2:(1:Int).fdiv 4294967296=0:=rfl
 have d3:(0:Int).fdiv 4294967296=0:=rfl
 have e1:IntKind.u64.wrap (n:Int)=n:=w1 _ (by omega) (by omega)
 have e0:IntKind.u64.wrap 0=0:=rfl
 have hm:(2:Int) ^ min 32 IntKind.u64.bits=4294967296:=rfl
 refine spB Tryz.func195 51 [.tmp 4,.tmp 5] Tryz.results195 ?_
 iterate 2(try simp(etaStruct := .none)only[push_cast,zab,seval,hm,a1,a2,a3,d1,d2,d3,e1,e0,Int.mul_zero,Int.zero_mul,Int.one_mul,Int.add_zero,Int.zero_add];try refine xsu ?_)
 exact xrz rfl
theorem ygr (n:Nat) (h:n≤1600):Spec Tryz.prog 188 [.c (.v (.int .u64 1)),.c (.v (.int .u64 n))] [] (.tup [.c (.v (.int .u64 0)),.c (.v (.int .u64 n))]) []:=by
 refine spB Tryz.func188 30 [.tmp 4,.tmp 5] Tryz.results188 ?_
 try refine xst ?_
 refine cI (fun h1 => ?_) fun h1 => ?_
 ·exact absurd h1 (by decide)
 ·try refine xst ?_
  refine caP (z85 n h) ?_
  try refine xst ?_
  exact xrz rfl
def rp (k n:Nat):List Int:=List.replicate k (-1)++List.replicate (n-k) 0
theorem ycc {k n:Nat} (h:k≤n):(rp k n).length=n:=by unfold rp;simp;omega
theorem zyw {k n:Nat} (h:k≤n):(rp k n).take k=List.replicate k (-1):=by unfold rp;rw[List.take_append_of_le_length (by simp)];simp
theorem zl3 {α β : Type} (f : α → β) (l:List α) (o:Nat) (m:List α):zai (l.map f) o (m.map f)=(zai l o m).map f:=by
 unfold zai
 rw[List.map_append,List.map_append,List.map_take,List.map_drop,List.length_map]
theorem z8d {k n:Nat} (h:k≤n):zai (rp k n) k ((List.replicate k (-1)).take (n-k))=rp (k+min k (n-k)) n:=by
 rw[List.take_replicate]
 unfold zai
 rw[zyw h,List.length_replicate]
 unfold rp
 rw[List.drop_append,List.length_replicate,List.drop_of_length_le (by simp),List.nil_append,show k+min (n-k) k-k=min (n-k) k from by omega,List.drop_replicate,←List.append_assoc,List.replicate_append_replicate,Nat.min_comm (n-k) k,show n-k-min k (n-k)=n-(k+min k (n-k))from by omega]
theorem z3g {n:Nat} (h:1≤n):zai (List.replicate n (0:Int)) 0 ([(-1:Int)].take n)=rp 1 n:=by
 obtain⟨m,rfl⟩:∃m,n=m+1:=⟨n-1,by omega⟩
 unfold zai rp
 simp
theorem ztw (n:Nat) (hpos:1≤n) (h:n≤1600):Spec Tryz.prog 178 [.own 0,I .i64 n] [.row 3 1 [[pI (-1)]]] (.own 1) [.row 3 1 [[pI (-1)]],.row 3 1 ((List.replicate n (-1:Int)).map zac)]:=by
 have e1:IntKind.u64.wrap (n:Int)=n:=zfl n (by omega)
 have e2:IntKind.u64.wrap 1=1:=rfl
 have e3:IntKind.i64.wrap (n:Int)=n:=zak _ (by omega) (by omega)
 have hf:=z3g hpos
 have hf2:zai (List.replicate n [pI 0]) 0 (([[pI (-1)]]:List (List PV)).take n)=(rp 1 n).map zac:=by rw[←hf,←zl3];simp[zac]
 have hmn:min 1 n=1:=by omega
 refine spB Tryz.func178 48 [.tmp 4] Tryz.results178 ?_
 try refine xz3 e1 e2 e3 ?_
 refine cI (fun h1 => ?_) fun h1 => ?_
 ·exfalso;omega
 ·try refine xz3 e1 e2 e3 ?_
  refine caP (ygr n h) ?_
  try refine xz3 e1 e2 e3 ?_
  refine cI (fun h2 => ?_) fun h2 => ?_
  ·exfalso;omega
  ·try refine xz3 e1 e2 e3 ?_
   refine zay (fun k:Nat=>⟨[(8,I .i64 k),(7,.own 1)],[(0,.row 3 1 [[pI (-1)]]),(1,.row 3 1 ((rp k n).map zac))],2⟩) (fun k:Nat=>1≤k∧k≤n) (fun k:Nat=>n-k) (1) (⟨Nat.le_refl _,hpos⟩) (To.mk [0,1] rfl rfl (by decide) ?_ ?_) ?_
   ·simp(etaStruct := .none)only[push_cast,zab,seval,List.length_replicate]
    simpa only[zai,List.take_zero,List.nil_append,Nat.zero_add]using hf2
   ·simp(etaStruct := .none)only[push_cast,zab,seval,List.length_replicate,hmn]
   rintro k ⟨hk1,hk⟩
   have hrl:=ycc hk
   have hrc:=z8d hk
   have htk:((rp k n).map zac).take k=(List.replicate k (-1:Int)).map zac:=by rw[←List.map_take,zyw hk]
   have hs2:zai ((rp k n).map zac) k ((((rp k n).map zac).take k).take (n-k))=(rp (k+min k (n-k)) n).map zac:=by rw[htk,←List.map_take,zl3,hrc]
   have hl2:(((rp k n).map zac).take k).length=k:=by rw[List.length_take,List.length_map,hrl];omega
   unfold zai at hs2
   try refine xz3 e1 e2 e3 ?_
   refine cI (fun h3 => ?_) fun h3 => ?_
   ·skip
    try refine xz3 e1 e2 e3 ?_
    (try(refine⟨by kernel_rfl,?_⟩))
    try refine xz3 e1 e2 e3 ?_
    refine⟨k+min k (n-k),⟨by omega,by omega⟩,by omega,To.mk [0,1] rfl rfl (by decide) ?_ ?_⟩
    ·try refine xz1 hrl ?_
     exact hs2
    ·(try(refine xz2 hl2 hrl ?_;try exact xtI))
   ·obtain rfl:k=n:=by omega
    have hrn:rp k k=List.replicate k (-1):=by unfold rp;simp
    try refine xz3 e1 e2 e3 ?_
    refine zb6 [0,1] rfl rfl (by decide) ⟨?_,?_,trivial⟩ trivial ?_<;>simp(etaStruct := .none)only[push_cast,zab,seval,hrn]
abbrev yge (f:Fld) (b:Cel) (far:List Int) (q:List Nod):List PV := [pI f.w,pI f.h,.sl 1 (f.p.map zac),pI b.x,pI b.y,.sl 1 (far.map zac),.sl 4 (q.map zbt)]
theorem zd4 (f:Fld) (b:Cel) (far:List Int) (q:List Nod) (c:Cel) (hf:zbv f=0) (hc:inF f c=true):Spec Tryz.prog 163 [.fel 7 [yge f b far q] 0 0,zg6 c] [] (I .i64 (zal f c)) []:=by
 obtain⟨i1,i2,i3,i4,i5⟩:=zbm hf hc
 have hci:=inF_iff.1 hc
 have e1:IntKind.i64.wrap (IntKind.i64.wrap (c.y*f.w)+c.x)=(zal f c:Int):=by rw[zak (c.y*f.w) (by omega) (by omega),zak _ (by omega) (by omega)];unfold zal;omega
 refine spB Tryz.func163 16 [.tmp 4] Tryz.results163 ?_
 try refine xz1 e1 ?_
 (try(refine⟨by kernel_rfl,?_⟩))
 try refine xz1 e1 ?_
 exact xrz rfl
def zcq (f:Fld) (c:Cel):Int × Bool:=if inF f c then (if zah f c=1 then (0,false)else (kV (zah f c),true))else (0,false)
theorem zr2 (f:Fld) (b:Cel) (far:List Int) (q:List Nod) (c:Cel) (hf:zbv f=0):Spec Tryz.prog 161 [.fel 7 [yge f b far q] 0 0,zg6 c] [] (.tup [I .i64 (zcq f c).1,B (zcq f c).2]) []:=by
 have hfo:=zbh hf
 have hav:atV f c=if inF f c then (zah f c,0)else (0,7):=by unfold atV;rw[if_neg (by simp[hf])]
 have hm:f.w*f.h≤40*40:=Int.mul_le_mul hfo.1.2 hfo.2.1.2 (by omega) (by omega)
 refine spB Tryz.func161 28 [.tmp 4,.tmp 5] Tryz.results161 ?_
 try refine xst ?_
 refine caP (zxv f c (by omega)) ?_
 rw[hav]
 try refine xst ?_
 (try(refine⟨by kernel_rfl,?_⟩))
 try refine xst ?_
 refine cI (fun h1 => ?_) fun h1 => ?_
 ·have hin:inF f c=false:=by
   cases hc:inF f c with
   | false=>rfl
   | true=>rw[hc]at h1;simp at h1
  have e:zcq f c=(0,false):=by unfold zcq;rw[if_neg (by simp[hin])]
  rw[e]
  try refine xst ?_
  exact xrz rfl
 ·have hin:inF f c=true:=by
   cases hc:inF f c with
   | true=>rfl
   | false=>rw[hc]at h1;simp at h1
  rw[if_pos hin]
  try refine xst ?_
  refine caP (yd0 (zah f c)) ?_
  have hpl:=hfo.2.2.2 _ (za1 f.p _ (show (c.y*f.w+c.x).toNat<f.p.length by have:=zbm hf hin;omega))
  have hcv:=z5i (q:=zah f c) hpl
  have e:zcq f c=if zah f c=1 then (0,false)else (kV (zah f c),true):=by unfold zcq;rw[if_pos hin]
  have e3:(zcq f c).1=(zei (zah f c)).1∧(zcq f c).2=decide ((zei (zah f c)).2=0):=by
   rw[e]
   rcases hcv with h|h
   ·rw[if_pos h.1,h.2];exact⟨rfl,rfl⟩
   ·rw[if_neg h.1,h.2];exact⟨rfl,rfl⟩
  rw[e3.1,e3.2]
  try refine xst ?_
  exact xrz rfl
theorem zt4 (c:Cel) (hx : -1000000≤c.x∧c.x≤1000000) (hy : -1000000≤c.y∧c.y≤1000000):Spec Tryz.prog 162 [zg6 c] [] (.agg [I .i64 c.x,I .i64 (c.y-1),I .i64 (c.x-1),I .i64 c.y,I .i64 (c.x+1),I .i64 c.y,I .i64 c.x,I .i64 (c.y+1)]) []:=by
 refine spB Tryz.func162 28 [.cell 2 295] Tryz.results162 ?_
 try refine xst ?_
 exact xrz rfl
def zbb (b c:Cel):Int:=2*(((b.x-c.x).natAbs+(b.y-c.y).natAbs:Nat):Int)
end Go.Proofs.YtmjbgbmegbkmhaaGreat
namespace Go.Proofs.YtmjbgbmegbkmhaaGreat
set_option linter.all false
open Go.RowKit
set_option maxRecDepth 100000
def lk (f:Fld) (b:Cel) (far:List Int) (d:Int) (q:List Nod) (c:Cel):List Nod:=if (zcq f c).2=true∧far.getD (zal f c) default<0 then zdh Nod.all q ⟨c,d+(zcq f c).1,d+(zcq f c).1+zbb b c⟩else q
def zeg (f:Fld) (b:Cel) (far:List Int) (d:Int) (q:List Nod) (l:List Cel):List Nod:=l.foldl (lk f b far d) q
theorem zmi (f:Fld) (b:Cel) (far:List Int) (d:Int) (q:List Nod) (l:List Cel) (c:Cel):zeg f b far d q (l ++ [c])=lk f b far d (zeg f b far d q l) c:=by unfold zeg;rw[List.foldl_append];rfl
theorem yc8 (f:Fld) (b:Cel) (far:List Int) (d:Int) (q:List Nod) (c:Cel):(lk f b far d q c).length≤q.length+1:=by
 unfold lk;split
 ·rw[zk5];exact Nat.le_refl _
 ·omega
theorem zkz (f:Fld) (b:Cel) (far:List Int) (d:Int) (l:List Cel):∀q:List Nod,(zeg f b far d q l).length≤q.length+l.length:=by
 induction l with
 | nil=>intro q;exact Nat.le_refl _
 | cons c r ih=>intro q;have h1:=ih (lk f b far d q c);have h2:=yc8 f b far d q c;simp only[zeg,List.foldl_cons,List.length_cons]at *;omega
def goB (f:Fld) (b:Cel) (far:List Int) (q:List Nod):Prop:=0<q.length∧(far.getD (zal f b) default<0∨(q.getD 0 default).all≤far.getD (zal f b) default)
def zke (f:Fld) (b:Cel):Nat→List Int→List Nod→List Int × List Nod
 | 0,far,q=>(far,q)
 | N+1,far,q=>if 0<q.length∧(far.getD (zal f b) default<0∨(q.getD 0 default).all≤far.getD (zal f b) default)then
  (if 0≤far.getD (zal f (q.getD 0 default).c) default then zke f b N far (zfd Nod.all q)
   else zke f b N (far.set (zal f (q.getD 0 default).c) (q.getD 0 default).far) (zeg f b (far.set (zal f (q.getD 0 default).c) (q.getD 0 default).far) (q.getD 0 default).far (zfd Nod.all q) (zaf (q.getD 0 default).c)))
  else (far,q)
section
variable {f : Fld} {W H : Nat}
theorem zs0 (hw:f.w=(W:Int)) (hh:f.h=(H:Int)) (hW:0<W) {p:Nat} (hp:p<W*H):inF f (zdk W p)=true∧zal f (zdk W p)=p:=by
 have h1:=Nat.div_add_mod p W
 have h2:=Nat.mod_lt p hW
 have h3:p/W<H:=by rw[Nat.div_lt_iff_lt_mul hW,Nat.mul_comm];exact hp
 unfold zdk zal
 refine⟨inF_iff.2 ⟨⟨Int.natCast_nonneg _,by simp only;rw[hw];exact Int.ofNat_lt.2 h2⟩,Int.natCast_nonneg _,by simp only;rw[hh];exact Int.ofNat_lt.2 h3⟩,?_⟩
 simp only
 rw[hw,show ((p/W:Nat):Int)*(W:Int)=((W*(p/W):Nat):Int)from by rw[Nat.mul_comm,Int.natCast_mul]]
 omega
theorem zbd (hw:f.w=(W:Int)) (hh:f.h=(H:Int)) (hW:0<W) (hf:zbv f=0) {c:Cel} (hc:inF f c=true):c=zdk W (zal f c)∧zal f c<f.p.length:=by
 obtain⟨i1,i2,i3,i4,i5⟩:=zbm hf hc
 have hci:=inF_iff.1 hc
 obtain⟨x,hx⟩:∃x:Nat,c.x=(x:Int):=Int.eq_ofNat_of_zero_le hci.1.1
 obtain⟨y,hy⟩:∃y:Nat,c.y=(y:Int):=Int.eq_ofNat_of_zero_le hci.2.1
 have e:zal f c=W*y+x:=by
  unfold zal
  rw[hx,hy,hw,show (y:Int)*(W:Int)=((W*y:Nat):Int)from by rw[Nat.mul_comm,Int.natCast_mul]]
  omega
 have hxW:x<W:=by omega
 refine⟨?_,by unfold zal;omega⟩
 rw[e]
 unfold zdk
 rw[Nat.mul_add_mod,Nat.mod_eq_of_lt hxW,Nat.mul_add_div hW,Nat.div_eq_of_lt hxW,Nat.add_zero,←hx,←hy]
theorem zn0 (hw:f.w=(W:Int)) (hh:f.h=(H:Int)) (hW:0<W) (b:Cel):yej W (W*H) fun p=>zbb b (zdk W p):=by
 intro p n hp hn ha
 have key:∀c c':Cel,(c.x=c'.x∧(c.y=c'.y+1∨c'.y=c.y+1))∨(c.y=c'.y∧(c.x=c'.x+1∨c'.x=c.x+1))→zbb b c≤zbb b c'+2:=by
  intro c c' h;unfold zbb;omega
 refine key _ _ ?_
 have h1:=Nat.div_add_mod p W
 have h2:=Nat.div_add_mod n W
 have m1:=Nat.mod_lt p hW
 have m2:=Nat.mod_lt n hW
 unfold zdk
 simp only
 have up:∀m:Nat,(m+W) % W=m % W∧(m+W)/W=m/W+1:=fun m=>⟨Nat.add_mod_right m W,Nat.add_div_right m hW⟩
 have side:∀m:Nat,0<(m+1) % W→(m+1) % W=m % W+1∧(m+1)/W=m/W:=fun m h=>by
  have hs:=ztk hW m
  have hl:=Nat.mod_lt m hW
  have hd:=Nat.div_add_mod m W
  split at hs
  ·omega
  ·rename_i hne
   refine⟨hs,?_⟩
   have hlt:m % W+1<W:=by omega
   have:m+1=W*(m/W)+(m % W+1):=by rw[←Nat.add_assoc,Nat.div_add_mod]
   rw[this,Nat.mul_add_div hW,Nat.div_eq_of_lt hlt,Nat.add_zero]
 rcases ha with h|⟨h,h'⟩|⟨h,h'⟩|h
 ·obtain⟨u1,u2⟩:=up n;rw[h]at u1 u2;exact .inl ⟨by omega,.inl (by omega)⟩
 ·obtain⟨u1,u2⟩:=side n (by rw[h];exact h');rw[h]at u1 u2;exact .inr ⟨by omega,.inl (by omega)⟩
 ·obtain⟨u1,u2⟩:=side p (by rw[h];exact h');rw[h]at u1 u2;exact .inr ⟨by omega,.inr (by omega)⟩
 ·obtain⟨u1,u2⟩:=up p;rw[h]at u1 u2;exact .inl ⟨by omega,.inr (by omega)⟩
theorem zz7 (hw:f.w=(W:Int)) (hh:f.h=(H:Int)) (hW:0<W) (hf:zbv f=0) (hL:f.p.length=W*H) (b:Cel) {a p:Nat} {far:List Int} {q:List Nod} {done:Nat→Nat→Prop} {d:Int} (h:As W f.p a (fun n=>zbb b (zdk W n)) far q done) (hp:p<f.p.length) (hd:far.getD p default=d) (h0:0≤d)
 (top:∀m,m<f.p.length→0≤far.getD m default→far.getD m default+zbb b (zdk W m)≤d+zbb b (zdk W p)) (hb:d+3≤3*zh5 zej far) (c:Cel) (hc:inF f c=true→Adj W p (zal f c)) :
 As W f.p a (fun n=>zbb b (zdk W n)) far (lk f b far d q c) fun x n=>done x n∨(x=p∧inF f c=true∧n=zal f c):=by
 have hcons:=zn0 hw hh hW b
 rw[←hL]at hcons
 cases hin:inF f c with
 | false =>
  have e:lk f b far d q c=q:=by unfold lk zcq;rw[if_neg (by rw[hin];simp)]
  rw[e]
  refine⟨h.len,h.low,h.heap,h.itm,h.src,h.why,h.top,fun u v h1 h2 h3 h4=>h.all u v h1 h2 h3 ?_⟩
  rcases h4 with h4|h4
  ·exact h4
  ·exact absurd h4.2.1 (by decide)
 | true =>
  obtain⟨e1,e2⟩:=zbd hw hh hW hf hin
  have epl:zah f c=f.p.getD (zal f c) default:=rfl
  refine h.look hcons (n:=zal f c) e2 hp (hc hin) (by rw[hd];exact h0) (fun m h1 h2=>by rw[hd];exact top m h1 h2) (by rw[hd];exact hb) _ (fun x y h4=>by
   rcases h4 with h4|h4
   ·exact .inl h4
   ·exact .inr ⟨h4.1,h4.2.2⟩) ?_
  unfold lk zcq
  rw[if_pos hin,epl,hd]
  by_cases hr:f.p.getD (zal f c) default=1
  ·rw[if_pos hr,if_neg (by simp)]
   exact .inl ⟨.inl hr,rfl⟩
  ·rw[if_neg hr]
   by_cases hn:far.getD (zal f c) default<0
   ·rw[if_pos ⟨rfl,hn⟩,←e1]
    exact .inr ⟨hr,hn,rfl⟩
   ·rw[if_neg (fun h=>hn h.2)]
    exact .inl ⟨.inr (by omega),rfl⟩
theorem zj9 (hw:f.w=(W:Int)) (hh:f.h=(H:Int)) (hW:0<W) {p:Nat} (hp:p<W*H) {c:Cel} (hc:c∈zaf (zdk W p)) (hin:inF f c=true):Adj W p (zal f c):=by
 obtain⟨bm,_⟩:=zmv f hw hh hW hp
 have:zal f c∈zlj W H p:=by rw[←bm];exact List.mem_map_of_mem (List.mem_filter.2 ⟨hc,hin⟩)
 exact((zmg hW hp).1 this).2
theorem zq4 (hw:f.w=(W:Int)) (hh:f.h=(H:Int)) (hW:0<W) {p n:Nat} (hp:p<W*H) (hn:n<W*H) (ha:Adj W p n):∃c∈zaf (zdk W p),inF f c=true∧n=zal f c:=by
 obtain⟨bm,_⟩:=zmv f hw hh hW hp
 have:=(zmg hW hp).2 ⟨hn,ha⟩
 rw[←bm]at this
 obtain⟨c,hc,e⟩:=List.mem_map.1 this
 obtain⟨h1,h2⟩:=List.mem_filter.1 hc
 exact⟨c,h1,h2,e.symm⟩
def ydx (f:Fld) (W p k:Nat) (x n:Nat):Prop:=x≠p∨∃c∈(zaf (zdk W p)).take k,inF f c=true∧n=zal f c
theorem z6t (hw:f.w=(W:Int)) (hh:f.h=(H:Int)) (hW:0<W) (hf:zbv f=0) (hL:f.p.length=W*H) (b:Cel) {a p:Nat} {far:List Int} {q:List Nod} {d:Int} (h:As W f.p a (fun n=>zbb b (zdk W n)) far q (fun x _=>x≠p)) (hp:p<f.p.length) (hd:far.getD p default=d) (h0:0≤d)
 (top:∀m,m<f.p.length→0≤far.getD m default→far.getD m default+zbb b (zdk W m)≤d+zbb b (zdk W p)) (hb:d+3≤3*zh5 zej far):∀k,k≤4→As W f.p a (fun n=>zbb b (zdk W n)) far (zeg f b far d q ((zaf (zdk W p)).take k)) (ydx f W p k):=by
 intro k
 induction k with
 | zero =>
  intro _
  refine⟨h.len,h.low,h.heap,h.itm,h.src,h.why,h.top,fun u v h1 h2 h3 h4=>h.all u v h1 h2 h3 ?_⟩
  rcases h4 with h4|⟨c,hc,_⟩
  ·exact h4
  ·simp at hc
 | succ k ih =>
  intro hk
  have hlt:k<(zaf (zdk W p)).length:=by rw[show (zaf (zdk W p)).length=4 from rfl];omega
  rw[zaq _ _ hlt,zmi]
  have:=zz7 hw hh hW hf hL b (ih (by omega)) hp hd h0 top hb ((zaf (zdk W p)).getD k default) (fun hin=>zj9 hw hh hW (by omega) (za1 _ _ hlt) hin)
  refine⟨this.len,this.low,this.heap,this.itm,this.src,this.why,this.top,fun u v h1 h2 h3 h4=>this.all u v h1 h2 h3 ?_⟩
  rcases h4 with h4|⟨c,hc,h5,h6⟩
  ·exact .inl (.inl h4)
  ·rw[zaq _ _ hlt,List.mem_append,List.mem_singleton]at hc
   by_cases hu:u=p
   ·rcases hc with hc|hc
    ·exact .inl (.inr ⟨c,hc,h5,h6⟩)
    ·subst hc;exact .inr ⟨hu,h5,h6⟩
   ·exact .inl (.inl hu)
theorem zus (hw:f.w=(W:Int)) (hh:f.h=(H:Int)) (hW:0<W) (hL:f.p.length=W*H) {a p:Nat} {hf2:Nat→Int} {far:List Int} {q:List Nod} (hp:p<f.p.length) (h:As W f.p a hf2 far q (ydx f W p 4)):As W f.p a hf2 far q fun _ _=>True:=by
 refine⟨h.len,h.low,h.heap,h.itm,h.src,h.why,h.top,fun u v h1 h2 h3 _=>h.all u v h1 h2 h3 ?_⟩
 by_cases hu:u=p
 ·subst hu;exact .inr (zq4 hw hh hW (by omega) (by omega) h3)
 ·exact .inl hu
end
def muS (f:Fld) (far:List Int) (q:List Nod):Nat:=5*(f.p.length-zh5 zej far)+q.length
section
variable {f : Fld} {W H : Nat}
theorem zvq (hw:f.w=(W:Int)) (hh:f.h=(H:Int)) (hW:0<W) (hf:zbv f=0) (hL:f.p.length=W*H) (b:Cel) {a:Nat} {far:List Int} {q:List Nod} (h:As W f.p a (fun n=>zbb b (zdk W n)) far q fun _ _=>True) (hq:0<q.length) (h0:far.getD (zal f (q.getD 0 default).c) default<0) :
 ∃p,(q.getD 0 default).c=zdk W p∧zal f (q.getD 0 default).c=p∧p<f.p.length∧0≤(q.getD 0 default).far∧As W f.p a (fun n=>zbb b (zdk W n)) (far.set p (q.getD 0 default).far) (zfd Nod.all q) (fun x _=>x≠p)∧(far.set p (q.getD 0 default).far).getD p default=(q.getD 0 default).far∧zh5 zej (far.set p (q.getD 0 default).far)=zh5 zej far+1 ∧
  (∀m,m<f.p.length→0≤(far.set p (q.getD 0 default).far).getD m default→(far.set p (q.getD 0 default).far).getD m default+zbb b (zdk W m)≤(q.getD 0 default).far+zbb b (zdk W p))∧(q.getD 0 default).far+3≤3*zh5 zej (far.set p (q.getD 0 default).far):=by
 obtain⟨p,e1,hp,j0,jb,ja,jm,jw⟩:=h.itm _ ((ze7 Nod.all q hq _).2 (.inl rfl))
 have hidx:zal f (q.getD 0 default).c=p:=by rw[e1];exact(zs0 hw hh hW (by omega)).2
 rw[hidx]at h0
 obtain⟨_,hA⟩:=h.close hW hq e1 h0
 have hpL:p<far.length:=by rw[h.len];exact hp
 have G:=fun k=>zm9 (q.getD 0 default).far k hpL
 have cnt:zh5 zej (far.set p (q.getD 0 default).far)=zh5 zej far+1:=by
  have:=zfz zej far p (q.getD 0 default).far hpL
  simp only[zej,if_neg (show ¬0≤far.getD p default by omega),if_pos j0]at this;simpa[zej]using this
 refine⟨p,e1,hidx,hp,j0,hA,by rw[G,if_pos rfl],cnt,fun m hm hm0 => ?_,by rw[cnt];omega⟩
 rw[G]at hm0 ⊢
 split
 ·rename_i e;subst e;exact Int.le_refl _
 ·rename_i e
  rw[if_neg e]at hm0
  have:=jm m hm hm0
  omega
theorem yca (hw:f.w=(W:Int)) (hh:f.h=(H:Int)) (hW:0<W) (hf:zbv f=0) (hL:f.p.length=W*H) (b:Cel) {a:Nat} : ∀(N:Nat) (far:List Int) (q:List Nod),As W f.p a (fun n=>zbb b (zdk W n)) far q (fun _ _=>True)→muS f far q≤N →
 As W f.p a (fun n=>zbb b (zdk W n)) (zke f b N far q).1 (zke f b N far q).2 (fun _ _=>True)∧¬goB f b (zke f b N far q).1 (zke f b N far q).2:=by
 intro N
 induction N with
 | zero =>
  intro far q h hm
  refine⟨h,fun hg => ?_⟩
  have:=hg.1
  simp only[zke]at this
  unfold muS at hm;omega
 | succ N ih =>
  intro far q h hm
  rw[zke]
  split
  ·rename_i hg
   have hcl:=zgq zej 1 zgv far
   rw[h.len]at hcl
   split
   ·rename_i h0
    obtain⟨p,e1,hp,_⟩:=h.itm _ ((ze7 Nod.all q hg.1 _).2 (.inl rfl))
    have hidx:zal f (q.getD 0 default).c=p:=by rw[e1];exact(zs0 hw hh hW (by omega)).2
    rw[hidx]at h0
    exact ih _ _ (h.skip hg.1 e1 h0) (by unfold muS at *;rw[zf5];omega)
   ·rename_i h0
    obtain⟨p,e1,hidx,hp,j0,hA,hself,cnt,top,hb⟩:=zvq hw hh hW hf hL b h hg.1 (by omega)
    have h4:=z6t hw hh hW hf hL b hA hp hself j0 top hb 4 (Nat.le_refl _)
    rw[show (zaf (zdk W p)).take 4=zaf (zdk W p)from rfl]at h4
    have h5:=zus hw hh hW hL hp h4
    rw[hidx,e1]
    refine ih _ _ h5 ?_
    have hll:=zkz f b (far.set p (q.getD 0 default).far) (q.getD 0 default).far (zaf (zdk W p)) (zfd Nod.all q)
    have hcl2:=zgq zej 1 zgv (far.set p (q.getD 0 default).far)
    rw[List.length_set,h.len]at hcl2
    rw[zf5,show (zaf (zdk W p)).length=4 from rfl]at hll
    unfold muS at *
    rw[cnt];omega
  ·rename_i hg
   exact⟨h,hg⟩
end
end Go.Proofs.YtmjbgbmegbkmhaaGreat
namespace Go.Proofs.YtmjbgbmegbkmhaaGreat
set_option linter.all false
open Go.RowKit
set_option maxRecDepth 100000
set_option maxHeartbeats 1000000
theorem z8k (f:Fld) (b:Cel) (far:List Int) (l:List Nod) (c:Cel) (d:Int) (hl:l.length≤1000000) (hx : -1000≤c.x∧c.x≤1000) (hy : -1000≤c.y∧c.y≤1000) (hbx:0≤b.x∧b.x≤40) (hby:0≤b.y∧b.y≤40) (hd:0≤d∧d≤1000000):Spec Tryz.prog 179 [.ptr 0 0 0,zg6 c,I .i64 d] [.blk 300 [I .i64 f.w,I .i64 f.h,.c (.sl 1 (f.p.map zac)),I .i64 b.x,I .i64 b.y,.own 1,.own 2],.row 3 1 (far.map zac),.row 327 4 (l.map zbt)] (.tup []) [.blk 300 [I .i64 f.w,I .i64 f.h,.c (.sl 1 (f.p.map zac)),I .i64 b.x,I .i64 b.y,.own 1,.own 3],.row 3 1 (far.map zac),.dead,.row 327 4 ((zdh Nod.all l ⟨c,d,d+zbb b c⟩).map zbt)]:=by
 have e1:IntKind.i64.wrap (d+IntKind.i64.wrap (2*(((b.x-c.x).natAbs+(b.y-c.y).natAbs:Nat):Int)))=d+zbb b c:=by unfold zbb;rw[zak (2*_) (by omega) (by omega),zak _ (by omega) (by omega)]
 refine spB Tryz.func179 32 [] Tryz.results179 ?_
 try refine xz1 e1 ?_
 refine caP (znu c b (by simp[zd2];omega) (by simp[zd2];omega)) ?_
 try refine xz1 e1 ?_
 (try(refine⟨by kernel_rfl,?_⟩))
 try refine xz1 e1 ?_
 refine zfj [0,1,2] (z30 f b far l ⟨c,d,d+zbb b c⟩ hl) (WkL.refl _) rfl (by decide) (by simp[zbu,zez,zq9]) ?_
 try refine xz1 e1 ?_
 (try(refine⟨by kernel_rfl,?_⟩))
 try refine xz1 e1 ?_
 refine zb6 [0,1,2,104] rfl rfl (by decide) ⟨?_,?_,?_,?_,trivial⟩ trivial ?_<;>simp(etaStruct := .none)only[push_cast,zab,seval]
end Go.Proofs.YtmjbgbmegbkmhaaGreat
namespace Go.Proofs.YtmjbgbmegbkmhaaGreat
set_option linter.all false
open Go.RowKit
set_option maxRecDepth 100000
def zuf (R:List Int) (f:Fld) (c n:Cel):Bool:=decide (0≤R.getD (zal f n) default)&&decide (R.getD (zal f n) default+kV (zah f c)=R.getD (zal f c) default)
def zlq (R:List Int) (f:Fld) (c:Cel):Cel:=((zd0 f c).find? (zuf R f c)).getD default
def zxz (R:List Int) (f:Fld) (a:Cel):Nat→Cel→List Cel
 | 0,_ => []
 | N+1,c=>if c=a then []else zlq R f c::zxz R f a N (zlq R f c)
def ya3 (R:List Int) (f:Fld) (a b:Cel):List Cel:=(b::zxz R f a (R.getD (zal f b) default).toNat b).reverse
def zlk (R:List Int) (f:Fld) (a b:Cel):Int:=if zbv f≠0 then zbv f else if ¬(inF f a=true∧inF f b=true)then 7 else if zah f a=1∨zah f b=1 then 9 else if R.getD (zal f b) default<0 then 6 else 0
theorem zq3 {f:Fld} {W H:Nat} (hw:f.w=(W:Int)) (hh:f.h=(H:Int)) (hW:0<W) (hf:zbv f=0) (hL:f.p.length=W*H) {c n:Cel} (hc:inF f c=true) (hn:n∈zd0 f c):inF f n=true∧Adj W (zal f c) (zal f n)∧zal f n<f.p.length:=by
 obtain⟨h1,h2⟩:=List.mem_filter.1 hn
 obtain⟨e1,e2⟩:=zbd hw hh hW hf hc
 rw[e1]at h1
 exact⟨h2,zj9 hw hh hW (by omega) h1 h2,(zbd hw hh hW hf h2).2⟩
theorem ycs {f:Fld} {W H:Nat} (hw:f.w=(W:Int)) (hh:f.h=(H:Int)) (hW:0<W) (hf:zbv f=0) (hL:f.p.length=W*H) {a c:Cel} {R:List Int} (hR:Flood W f.p [zal f a] R) (ha:inF f a=true) (hc:inF f c=true) (hca:c≠a) (h0:0≤R.getD (zal f c) default) :
 ∃n∈zd0 f c,zuf R f c n=true:=by
 obtain⟨e1,e2⟩:=zbd hw hh hW hf hc
 rcases hR.why _ e2 h0 with ⟨h1,h2⟩|⟨m,hm,hadj,hr,h3,h4⟩
 ·rw[List.mem_singleton]at h1
  have:=(zbd hw hh hW hf ha).1
  rw[←h1,←e1]at this
  exact absurd this.symm hca
 ·have hp:=hR.all m _ hm e2 hadj.symm h3 hr
  obtain⟨n,hn,hin,rfl⟩:=zq4 hw hh hW (by omega) (by omega) hadj
  rw[←e1]at hn
  refine⟨n,List.mem_filter.2 ⟨hn,hin⟩,?_⟩
  unfold zuf
  have epl:zah f c=f.p.getD (zal f c) default:=rfl
  rw[epl,Bool.and_eq_true,decide_eq_true_eq,decide_eq_true_eq]
  exact⟨h3,by omega⟩
theorem zzp {f:Fld} {W H:Nat} (hw:f.w=(W:Int)) (hh:f.h=(H:Int)) (hW:0<W) (hf:zbv f=0) (hL:f.p.length=W*H) {a c:Cel} {R:List Int} (hR:Flood W f.p [zal f a] R) (ha:inF f a=true) (hc:inF f c=true) (hca:c≠a) (h0:0≤R.getD (zal f c) default) :
 (zd0 f c).find? (zuf R f c)=some (zlq R f c)∧zlq R f c∈zd0 f c∧inF f (zlq R f c)=true∧Adj W (zal f c) (zal f (zlq R f c))∧0≤R.getD (zal f (zlq R f c)) default∧R.getD (zal f (zlq R f c)) default+kV (zah f c)=R.getD (zal f c) default:=by
 obtain⟨n,hn,hp⟩:=ycs hw hh hW hf hL hR ha hc hca h0
 cases hfi:(zd0 f c).find? (zuf R f c)with
 | none=>exact absurd hp (by simpa using List.find?_eq_none.1 hfi n hn)
 | some m =>
  have e:zlq R f c=m:=by unfold zlq;rw[hfi];rfl
  have hm:=List.mem_of_find?_eq_some hfi
  have hq:=List.find?_some hfi
  unfold zuf at hq
  rw[Bool.and_eq_true,decide_eq_true_eq,decide_eq_true_eq]at hq
  obtain⟨b1,b2,_⟩:=zq3 hw hh hW hf hL hc hm
  rw[e]
  exact⟨rfl,hm,b1,b2,hq.1,hq.2⟩
theorem z8j {f:Fld} {W H:Nat} (hw:f.w=(W:Int)) (hh:f.h=(H:Int)) (hW:0<W) (hf:zbv f=0) (hL:f.p.length=W*H) {a b c:Cel} {R far:List Int} {q:List Nod} (hR:Flood W f.p [zal f a] R) (ha:inF f a=true) (hpa:zah f a≠1) (hc:inF f c=true) (h0:0≤R.getD (zal f c) default)
 (hA:As W f.p (zal f a) (fun n=>zbb b (zdk W n)) far q fun _ _=>True) (hcb:R.getD (zal f c) default+zbb b c≤R.getD (zal f b) default) (hq:∀x∈q,R.getD (zal f b) default<x.all) (hfc:far.getD (zal f c) default=R.getD (zal f c) default) {n:Cel} (hn:n∈zaf c) :
 ((zcq f n).2=true∧0≤far.getD (zal f n) default∧far.getD (zal f n) default+kV (zah f c)=far.getD (zal f c) default)↔(inF f n=true∧zuf R f c n=true):=by
 have hcons:=zn0 hw hh hW b
 rw[←hL]at hcons
 have haL:=(zbd hw hh hW hf ha).2
 obtain⟨ec,hcL⟩:=zbd hw hh hW hf hc
 have hkv:=zxt (zah f c)
 have epl:∀n,zah f n=f.p.getD (zal f n) default:=fun _=>rfl
 unfold zuf zcq
 rw[Bool.and_eq_true,decide_eq_true_eq,decide_eq_true_eq,hfc]
 constructor
 ·rintro⟨h1,h2,h3⟩
  have hin:inF f n=true:=by
   cases hi:inF f n with
   | true=>rfl
   | false=>rw[hi]at h1;simp at h1
  have:=hA.same hcons haL hR (zbd hw hh hW hf hin).2 h2
  rw[this]at h2 h3
  exact⟨hin,h2,h3⟩
 ·rintro⟨hin,h2,h3⟩
  obtain⟨en,hnL⟩:=zbd hw hh hW hf hin
  have hadj:Adj W (zal f c) (zal f n):=by rw[ec]at hn;exact zj9 hw hh hW (by omega) hn hin
  have hle:=hcons _ _ hnL hcL hadj.symm
  simp only at hle
  rw[←en,←ec]at hle
  have hk:=hA.known hcons haL hR hnL h2 (fun x hx=>by have:=hq x hx;rw[←en];omega)
  rw[hk]
  refine⟨?_,h2,h3⟩
  rw[if_pos hin,if_neg]
  rw[epl]
  rcases hR.why _ hnL h2 with ⟨w1,_⟩|⟨_,_,_,hr,_⟩
  ·rw[List.mem_singleton]at w1;rw[w1];exact hpa
  ·exact hr
theorem zxe {f:Fld} {R:List Int} {c:Cel} {p:Cel→Bool} (hp:∀n∈zaf c,p n=(inF f n&&zuf R f c n)):(zaf c).find? p=(zd0 f c).find? (zuf R f c):=by
 unfold zd0
 rw[List.find?_filter]
 have key:∀l:List Cel,(∀n∈l,p n=(inF f n&&zuf R f c n))→l.find? p=l.find? (fun n=>inF f n&&zuf R f c n):=by
  intro l
  induction l with
  | nil=>intro _;rfl
  | cons x r ih=>intro h;rw[List.find?_cons,List.find?_cons,h x (by simp),ih fun n hn=>h n (by simp[hn])]
 have:=key _ hp
 simpa using this
end Go.Proofs.YtmjbgbmegbkmhaaGreat
namespace Go.Proofs.YtmjbgbmegbkmhaaGreat
set_option linter.all false
open Go.RowKit
set_option maxRecDepth 100000
set_option maxHeartbeats 2000000
def z9u (f:Fld) (c:Cel):Nat:=if inF f c=true then zal f c else 0
theorem zin {f:Fld} {c:Cel} (h:inF f c=true):z9u f c=zal f c:=if_pos h
theorem z0l {f:Fld} (hf:zbv f=0) (c:Cel):z9u f c<f.p.length:=by
 have hfo:=zbh hf
 unfold z9u
 split
 ·rename_i h
  have:=zbm hf h
  unfold zal;omega
 ·have h1:0<f.w*f.h:=Int.mul_pos (by omega) (by omega)
  omega
theorem zkl (f:Fld) (b:Cel) (far:List Int) (q:List Nod) (c:Cel) (hf:zbv f=0) (hc:(zcq f c).2=true):Spec Tryz.prog 163 [.fel 7 [yge f b far q] 0 0,zg6 c] [] (I .i64 (z9u f c)) []:=by
 have hin:inF f c=true:=by
  cases hi:inF f c with
  | true=>rfl
  | false=>unfold zcq at hc;rw[hi]at hc;simp at hc
 rw[zin hin];exact zd4 f b far q c hf hin
theorem zj8 (c:Cel) (k:Nat) (hk:k<4):List.take 2 (List.drop (k*2) ([I .i64 c.x,I .i64 (c.y-1),I .i64 (c.x-1),I .i64 c.y,I .i64 (c.x+1),I .i64 c.y,I .i64 c.x,I .i64 (c.y+1)]:List AV)) = [I .i64 ((zaf c).getD k default).x,I .i64 ((zaf c).getD k default).y]:=by
 have:k=0∨k=1∨k=2∨k=3:=by omega
 rcases this with rfl|rfl|rfl|rfl<;>rfl
theorem zyp {f:Fld} {c:Cel} (hf:zbv f=0) (hc:inF f c=true) (k:Nat) (hk:k<4):(-1000≤((zaf c).getD k default).x∧((zaf c).getD k default).x≤1000) ∧ -1000≤((zaf c).getD k default).y∧((zaf c).getD k default).y≤1000:=by
 have h1:=inF_iff.1 hc
 have h2:=zbh hf
 have:k=0∨k=1∨k=2∨k=3:=by omega
 rcases this with rfl|rfl|rfl|rfl<;>simp only[zaf,List.getD_cons_zero,List.getD_cons_succ]<;>omega
theorem z8c {f:Fld} {b:Cel} {fr:List Int} {m:List Nod} (h:0<m.length∧(fr.getD (zal f b) default<0∨(m.getD 0 default).all≤fr.getD (zal f b) default)) (M:Nat):zke f b (M+1) fr m=if 0≤fr.getD (zal f (m.getD 0 default).c) default then zke f b M fr (zfd Nod.all m)
 else zke f b M (fr.set (zal f (m.getD 0 default).c) (m.getD 0 default).far) (zeg f b (fr.set (zal f (m.getD 0 default).c) (m.getD 0 default).far) (m.getD 0 default).far (zfd Nod.all m) (zaf (m.getD 0 default).c)):=by
 rw[zke,if_pos h]
theorem z8b {f:Fld} {b:Cel} {fr:List Int} {m:List Nod} (h:¬(0<m.length∧(fr.getD (zal f b) default<0∨(m.getD 0 default).all≤fr.getD (zal f b) default))) (M:Nat):zke f b M fr m=(fr,m):=by
 cases M with
 | zero=>rfl
 | succ M=>rw[zke,if_neg h]
theorem z6q (f:Fld) (b:Cel) {W H:Nat} (hw:f.w=(W:Int)) (hh:f.h=(H:Int)) (hW:0<W) (hf:zbv f=0) (hL:f.p.length=W*H) (hb:inF f b=true) (a N:Nat) (far:List Int) (q:List Nod) (hA:As W f.p a (fun n=>zbb b (zdk W n)) far q (fun _ _=>True)) (hm:muS f far q≤N) (hN:N≤100000):Spec Tryz.prog 180 [.ptr 0 0 0] [.blk 300 [I .i64 f.w,I .i64 f.h,.c (.sl 1 (f.p.map zac)),I .i64 b.x,I .i64 b.y,.own 1,.own 2],.row 3 1 (far.map zac),.row 327 4 (q.map zbt)] (.tup []) [.blk 300 [I .i64 f.w,I .i64 f.h,.c (.sl 1 (f.p.map zac)),I .i64 b.x,I .i64 b.y,.own 1,.own 3],.row 3 1 ((zke f b N far q).1.map zac),.dead,.row 327 4 ((zke f b N far q).2.map zbt)]:=by
 have hbW:zal f b<f.p.length:=(zbd hw hh hW hf hb).2
 have hbi:=inF_iff.1 hb
 have hfo:=zbh hf
 have hpl:=(zbm hf hb).2.2.2.2
 refine spB Tryz.func180 108 [] Tryz.results180 ?_
 (iterate 2((try simp(etaStruct := .none)only[push_cast,seval]);(try(refine xsu ?_;try exact xtI))))
 refine zcl (zd4 f b far q b hf hb) (WkL.refl _) rfl ?_
 (iterate 2((try simp(etaStruct := .none)only[push_cast,seval]);(try(refine xsu ?_;try exact xtI))))
 refine zay (fun x:Nat × List Int × List Nod=>⟨[(2,I .i64 (zal f b)),(0,.ptr 0 0 0)],[(0,.blk 300 [I .i64 f.w,I .i64 f.h,.c (.sl 1 (f.p.map zac)),I .i64 b.x,I .i64 b.y,.own 1,.own 3]),(1,.row 3 1 (x.2.1.map zac)),(2,.dead),(3,.row 327 4 (x.2.2.map zbt))],4⟩) (fun x:Nat × List Int × List Nod=>As W f.p a (fun n=>zbb b (zdk W n)) x.2.1 x.2.2 (fun _ _=>True)∧muS f x.2.1 x.2.2≤x.1∧x.1≤N∧zke f b x.1 x.2.1 x.2.2=zke f b N far q) (fun x:Nat × List Int × List Nod=>x.1) ((N,far,q)) (⟨hA,hm,Nat.le_refl _,rfl⟩) ((To.moveC 0 6 2 327 4 300 _ (q.map zbt) rfl rfl rfl).trans (To.mk [0,1,2,3] rfl rfl (by decide) ?_ ?_)) ?_
 ·simp(etaStruct := .none)only[push_cast,zab,seval,List.set_cons_zero,List.set_cons_succ]
 ·simp(etaStruct := .none)only[push_cast,zab,seval]
 rintro⟨M,fr,m⟩ ⟨hA,hm,hMN,hu⟩
 simp only at hA hm hMN hu
 have hbF:zal f b<fr.length:=by rw[hA.len];exact hbW
 rcases Nat.eq_zero_or_pos m.length with hz|hz
 ·obtain rfl:=List.length_eq_zero_iff.1 hz
  have e:zke f b M fr []=(fr,[]):=by
   cases M with
   | zero=>rfl
   | succ M=>rw[zke,if_neg (fun h=>by simp at h)]
  simp only[awp,yeo]
  refine zbk _ rfl ?_
  intro O l R hl hd hR
  subst hl
  iterate 4(refine zax fun r hr => ?_;simp(etaStruct := .none)only[push_cast,zab,seval,hd];subst hr)
  refine zax fun r hr => ?_
  simp(etaStruct := .none)only[push_cast,zab,seval,hd]
  refine zcl (zpx []) (WkL.refl _) rfl ?_
  simp(etaStruct := .none)only[push_cast,zab,seval,hd,List.length_nil,Int.ofNat_zero,Int.lt_irrefl]
  subst hr
  iterate 28(refine zax fun r hr => ?_;simp(etaStruct := .none)only[push_cast,zab,seval,hd,zaa _ _ _ hbF,zac,List.length_nil,Int.ofNat_zero,Int.lt_irrefl,id];(try refine⟨fun h=>absurd h (by decide),?_⟩);(try refine⟨fun h=>h.elim,?_⟩);subst hr)
  refine zlu ?_
  subst hR
  refine zlt (by kernel_rfl) ?_
  simp(etaStruct := .none) (maxSteps:=1000000)only[push_cast,zab,seval]
  refine zau (fun h1 => ?_) (fun h1 => ?_)
  ·exact absurd h1 (by decide)
  ·rw[←hu,e]
   try refine xst ?_
   refine zb6 [0,1,2,3] rfl rfl (by decide) ⟨?_,?_,?_,?_,trivial⟩ trivial ?_<;>simp(etaStruct := .none)only[push_cast,zab,seval]
 have hzd:(0<(m.length:Int))=True:=eq_true (by omega)
 have hmu5:m.length≤100000:=by unfold muS at hm;omega
 (iterate 2((try simp(etaStruct := .none)only[push_cast,seval,hzd,zaa _ _ _ hbF,zaa _ _ _ hz,zac,zbt]);(try(refine xsu ?_;try exact xtI))))
 refine zbk [some 14,some 15,some 16,some 17,some 18,some 19,some 20,some 21,some 22,some 23,some 24,some 25,some 26,some 27,some 28,some 29,some 30,some 31,some 32,some 33,some 34,some 35,some 36,some 37,some 38,some 39,some 40,some 41,some 42,some 43,some 44,some 45,some 46] rfl ?_
 intro Oq lq Rq hlq hdq hRq
 subst hlq
 iterate 4(refine zax fun rq hrq => ?_;(iterate 2((try simp(etaStruct := .none)only[push_cast,seval,hdq,id,hzd,zaa _ _ _ hbF,zaa _ _ _ hz,zac,zbt]);(try(refine xsu ?_;try exact xtI))));subst hrq)
 refine zax fun rq hrq => ?_
 (iterate 2((try simp(etaStruct := .none)only[push_cast,seval,hdq,id,hzd,zaa _ _ _ hbF,zaa _ _ _ hz,zac,zbt]);(try(refine xsu ?_;try exact xtI))))
 refine zcl (zpx m) (WkL.refl _) rfl ?_
 (iterate 2((try simp(etaStruct := .none)only[push_cast,seval,hdq,id,hzd,zaa _ _ _ hbF,zaa _ _ _ hz,zac,zbt]);(try(refine xsu ?_;try exact xtI))))
 subst hrq
 iterate 28(refine zax fun rq hrq => ?_;(iterate 2((try simp(etaStruct := .none)only[push_cast,seval,hdq,id,hzd,zaa _ _ _ hbF,zaa _ _ _ hz,zac,zbt]);(try(refine xsu ?_;try exact xtI))));subst hrq)
 refine zlu ?_
 subst hRq
 clear hdq Oq
 refine zlt (by kernel_rfl) ?_
 (iterate 2((try simp(etaStruct := .none)only[push_cast,seval,hzd,zaa _ _ _ hbF,zaa _ _ _ hz,zac,zbt]);(try(refine xsu ?_;try exact xtI))))
 refine cI (fun h1 => ?_) fun h1 => ?_
 ·have hg:goB f b fr m:=⟨hz,h1⟩
  obtain⟨p,e1,hp,j0,jb,_⟩:=hA.itm _ ((ze7 Nod.all m hz _).2 (.inl rfl))
  obtain⟨hin,hidx⟩:=zs0 (f:=f) hw hh hW (p:=p) (by omega)
  rw[←e1]at hin hidx
  have hpF:zal f (m.getD 0 default).c<fr.length:=by rw[hidx,hA.len];exact hp
  have hci:=inF_iff.1 hin
  have hcl:=zgq zej 1 zgv fr
  rw[hA.len]at hcl
  obtain⟨M',rfl⟩:∃M',M=M'+1:=⟨M-1,by unfold muS at hm;omega⟩
  have hrun:=z8c hg M'
  (iterate 2((try simp(etaStruct := .none)only[push_cast,seval,hzd,zaa _ _ _ hbF,zaa _ _ _ hz,zac,zbt,zaa _ _ _ hpF]);(try(refine xsu ?_;try exact xtI))))
  refine caM [0,1,3] (z82 f b fr m hz (by omega)) ?_
  (iterate 2((try simp(etaStruct := .none)only[push_cast,seval,hzd,zaa _ _ _ hbF,zaa _ _ _ hz,zac,zbt,zaa _ _ _ hpF]);(try(refine xsu ?_;try exact xtI))))
  refine zbk [some 53,some 54,some 55,some 56,some 57,some 58,some 59,some 60,some 61,some 62,some 63] rfl ?_
  intro Oq lq Rq hlq hdq hRq
  subst hlq
  iterate 7(refine zax fun rq hrq => ?_;(iterate 2((try simp(etaStruct := .none)only[push_cast,seval,hdq,id,hzd,zaa _ _ _ hbF,zaa _ _ _ hz,zac,zbt,zaa _ _ _ hpF]);(try(refine xsu ?_;try exact xtI))));subst hrq)
  refine zax fun rq hrq => ?_
  (iterate 2((try simp(etaStruct := .none)only[push_cast,seval,hdq,id,hzd,zaa _ _ _ hbF,zaa _ _ _ hz,zac,zbt,zaa _ _ _ hpF]);(try(refine xsu ?_;try exact xtI))))
  refine zcl (zd4 f b fr (zfd Nod.all m) (m.getD 0 default).c hf hin) (WkL.refl _) rfl ?_
  (iterate 2((try simp(etaStruct := .none)only[push_cast,seval,hdq,id,hzd,zaa _ _ _ hbF,zaa _ _ _ hz,zac,zbt,zaa _ _ _ hpF]);(try(refine xsu ?_;try exact xtI))))
  subst hrq
  iterate 3(refine zax fun rq hrq => ?_;(iterate 2((try simp(etaStruct := .none)only[push_cast,seval,hdq,id,hzd,zaa _ _ _ hbF,zaa _ _ _ hz,zac,zbt,zaa _ _ _ hpF]);(try(refine xsu ?_;try exact xtI))));subst hrq)
  refine zlu ?_
  subst hRq
  clear hdq Oq
  refine zlt (by kernel_rfl) ?_
  (iterate 2((try simp(etaStruct := .none)only[push_cast,seval,hzd,zaa _ _ _ hbF,zaa _ _ _ hz,zac,zbt,zaa _ _ _ hpF]);(try(refine xsu ?_;try exact xtI))))
  refine cI (fun h2 => ?_) fun h2 => ?_
  ·skip
   (iterate 2((try simp(etaStruct := .none)only[push_cast,seval,hzd,zaa _ _ _ hbF,zaa _ _ _ hz,zac,zbt,zaa _ _ _ hpF]);(try(refine xsu ?_;try exact xtI))))
   refine⟨(M',fr,zfd Nod.all m),⟨hA.skip hz e1 (by rw[←hidx];exact h2),by simp only;unfold muS at hm ⊢;rw[zf5];omega,by simp only;omega,by rw[←hu,hrun,if_pos h2]⟩,by simp only;omega,To.mk [0,1,2,136] rfl rfl (by decide) ?_ ?_⟩
   ·(iterate 2((try simp(etaStruct := .none)only[push_cast,seval,hzd,zaa _ _ _ hbF,zaa _ _ _ hz,zac,zbt,zaa _ _ _ hpF]);(try(refine xsu ?_;try exact xtI))))
   ·(iterate 2((try simp(etaStruct := .none)only[push_cast,seval,hzd,zaa _ _ _ hbF,zaa _ _ _ hz,zac,zbt,zaa _ _ _ hpF]);(try(refine xsu ?_;try exact xtI))))
  ·obtain⟨p',e1',_,_,_,hA2,hself,cnt,top,hb3⟩:=zvq hw hh hW hf hL b hA hz (by omega)
   obtain rfl:p=p':=zdr (e1.symm.trans e1')
   obtain⟨C,hC⟩:∃C,C=(m.getD 0 default).c:=⟨_,rfl⟩
   obtain⟨D,hD⟩:∃D,D=(m.getD 0 default).far:=⟨_,rfl⟩
   rw[←hidx,←hC,←hD]at hA2 hself cnt top hb3
   rw[←hC,←hD]at hrun
   rw[←hC]at hin hci e1 hidx hpF
   rw[←hD]at j0 jb
   obtain⟨Fq,hFS⟩:∃Fq,Fq=fr.set (zal f C) D:=⟨_,rfl⟩
   rw[←hFS]at hA2 hself cnt top hb3 hrun
   have hFl:Fq.length=f.p.length:=by rw[hFS,List.length_set];exact hA.len
   (iterate 2((try simp(etaStruct := .none)only[push_cast,seval,hzd,zaa _ _ _ hbF,zaa _ _ _ hz,zac,zbt,zaa _ _ _ hpF,←hC,←hD]);(try(refine xsu ?_;try exact xtI))))
   refine zbk [some 64,some 65,some 66,some 67,some 68,some 69,some 70,some 71,some 72,some 73,some 74,none] rfl ?_
   intro Oq lq Rq hlq hdq hRq
   subst hlq
   iterate 7(refine zax fun rq hrq => ?_;(iterate 2((try simp(etaStruct := .none)only[push_cast,seval,hdq,id,hzd,zaa _ _ _ hbF,zaa _ _ _ hz,zac,zbt,zaa _ _ _ hpF,←hC,←hD]);(try(refine xsu ?_;try exact xtI))));subst hrq)
   refine zax fun rq hrq => ?_
   (iterate 2((try simp(etaStruct := .none)only[push_cast,seval,hdq,id,hzd,zaa _ _ _ hbF,zaa _ _ _ hz,zac,zbt,zaa _ _ _ hpF,←hC,←hD]);(try(refine xsu ?_;try exact xtI))))
   refine zcl (zd4 f b fr (zfd Nod.all m) C hf hin) (WkL.refl _) rfl ?_
   (iterate 2((try simp(etaStruct := .none)only[push_cast,seval,hdq,id,hzd,zaa _ _ _ hbF,zaa _ _ _ hz,zac,zbt,zaa _ _ _ hpF,←hC,←hD]);(try(refine xsu ?_;try exact xtI))))
   subst hrq
   iterate 4(refine zax fun rq hrq => ?_;(iterate 2((try simp(etaStruct := .none)only[push_cast,seval,hdq,id,hzd,zaa _ _ _ hbF,zaa _ _ _ hz,zac,zbt,zaa _ _ _ hpF,←hC,←hD]);(try(refine xsu ?_;try exact xtI))));subst hrq)
   refine zlu ?_
   subst hRq
   clear hdq Oq
   refine zlt (by kernel_rfl) ?_
   (iterate 2((try simp(etaStruct := .none)only[push_cast,seval,hzd,zaa _ _ _ hbF,zaa _ _ _ hz,zac,zbt,zaa _ _ _ hpF,←hC,←hD]);(try(refine xsu ?_;try exact xtI))))
   refine caP (zt4 C (by omega) (by omega)) ?_
   (iterate 2((try simp(etaStruct := .none)only[push_cast,seval,hzd,zaa _ _ _ hbF,zaa _ _ _ hz,zac,zbt,zaa _ _ _ hpF,←hC,←hD]);(try(refine xsu ?_;try exact xtI))))
   refine zay (fun k:Nat=>⟨[(78,I .i64 k),(77,.agg [I .i64 C.x,I .i64 (C.y-1),I .i64 (C.x-1),I .i64 C.y,I .i64 (C.x+1),I .i64 C.y,I .i64 C.x,I .i64 (C.y+1)]),(3,.ptr 4 0 0),(2,I .i64 (zal f b)),(0,.ptr 0 0 0)],[(0,.blk 300 [I .i64 f.w,I .i64 f.h,.c (.sl 1 (f.p.map zac)),I .i64 b.x,I .i64 b.y,.own 1,.own 3]),(1,.row 3 1 (Fq.map zac)),(2,.dead),(3,.row 327 4 ((zeg f b Fq D (zfd Nod.all m) ((zaf C).take k)).map zbt)),(4,.blk 327 [I .i64 C.x,I .i64 C.y,I .i64 D,I .i64 (m.getD 0 default).all])],5⟩) (fun k:Nat=>k≤4) (fun k:Nat=>4-k) (0) (Nat.zero_le _) (To.mk [0,1,2,136,137] rfl rfl (by decide) ?_ ?_) ?_
   ·simp(etaStruct := .none)only[push_cast,zab,seval,List.map_set,zac,List.take_zero,zeg,List.foldl_nil,hFS]
   ·simp(etaStruct := .none)only[push_cast,zab,seval,Int.ofNat_zero]
   rintro k hk2
   (iterate 2((try simp(etaStruct := .none)only[push_cast,seval,hzd,zaa _ _ _ hbF,zaa _ _ _ hz,zac,zbt,zaa _ _ _ hpF,←hC,←hD]);(try(refine xsu ?_;try exact xtI))))
   refine cI (fun h3 => ?_) fun h3 => ?_
   ·have hlt:k<4:=by omega
    have hsc:=zj8 C k hlt
    have hsn:=zyp hf hin k hlt
    have hst:zeg f b Fq D (zfd Nod.all m) ((zaf C).take (k+1))=lk f b Fq D (zeg f b Fq D (zfd Nod.all m) ((zaf C).take k)) ((zaf C).getD k default):=by rw[zaq _ _ (show k<(zaf C).length from hlt),zmi]
    have hgG:z9u f ((zaf C).getD k default)<Fq.length:=by rw[hFl];exact z0l hf _
    have hcb:0≤(zcq f ((zaf C).getD k default)).1∧(zcq f ((zaf C).getD k default)).1≤3:=by
     have:=zxt (zah f ((zaf C).getD k default))
     unfold zcq
     split
     ·split<;>simp only<;>omega
     ·simp only;omega
    have hql:((zeg f b Fq D (zfd Nod.all m) ((zaf C).take k))).length≤100004:=by
     have h1:=zkz f b Fq D ((zaf C).take k) (zfd Nod.all m)
     rw[zf5,List.length_take]at h1
     omega
    (iterate 2((try simp(etaStruct := .none)only[push_cast,seval,hzd,zaa _ _ _ hbF,zaa _ _ _ hz,zac,zbt,zaa _ _ _ hpF,←hC,←hD,hsc,zaa _ _ _ hgG,zac]);(try(refine xsu ?_;try exact xtI))))
    refine zcl (zr2 f b Fq (zeg f b Fq D (zfd Nod.all m) ((zaf C).take k)) ((zaf C).getD k default) hf) (WkL.refl _) rfl ?_
    (iterate 2((try simp(etaStruct := .none)only[push_cast,seval,hzd,zaa _ _ _ hbF,zaa _ _ _ hz,zac,zbt,zaa _ _ _ hpF,←hC,←hD,hsc,zaa _ _ _ hgG,zac]);(try(refine xsu ?_;try exact xtI))))
    refine zbk [some 87,some 88,some 89,some 90,some 91,some 92,some 93,some 94,some 95,some 96,some 97,some 98,some 99] rfl ?_
    intro Oq lq Rq hlq hdq hRq
    subst hlq
    iterate 8(refine zax fun rq hrq => ?_;(iterate 2((try simp(etaStruct := .none)only[push_cast,seval,hdq,id,hzd,zaa _ _ _ hbF,zaa _ _ _ hz,zac,zbt,zaa _ _ _ hpF,←hC,←hD,hsc,zaa _ _ _ hgG,zac]);(try(refine xsu ?_;try exact xtI))));subst hrq)
    refine zax fun rq hrq => ?_
    (iterate 2((try simp(etaStruct := .none)only[push_cast,seval,hdq,id,hzd,zaa _ _ _ hbF,zaa _ _ _ hz,zac,zbt,zaa _ _ _ hpF,←hC,←hD,hsc,zaa _ _ _ hgG,zac]);(try(refine xsu ?_;try exact xtI))))
    refine zk9 (fun hcc=>zkl f b Fq (zeg f b Fq D (zfd Nod.all m) ((zaf C).take k)) ((zaf C).getD k default) hf hcc) (WkL.refl _) rfl (by intro hc;(try simp(etaStruct := .none)only[push_cast,zab,seval]);(try simp_all)) ?_
    (iterate 2((try simp(etaStruct := .none)only[push_cast,seval,hdq,id,hzd,zaa _ _ _ hbF,zaa _ _ _ hz,zac,zbt,zaa _ _ _ hpF,←hC,←hD,hsc,zaa _ _ _ hgG,zac]);(try(refine xsu ?_;try exact xtI))))
    subst hrq
    iterate 4(refine zax fun rq hrq => ?_;(iterate 2((try simp(etaStruct := .none)only[push_cast,seval,hdq,id,hzd,zaa _ _ _ hbF,zaa _ _ _ hz,zac,zbt,zaa _ _ _ hpF,←hC,←hD,hsc,zaa _ _ _ hgG,zac]);(try(refine xsu ?_;try exact xtI))));subst hrq)
    refine zlu ?_
    subst hRq
    clear hdq Oq
    refine zlt (by kernel_rfl) ?_
    (iterate 2((try simp(etaStruct := .none)only[push_cast,seval,hzd,zaa _ _ _ hbF,zaa _ _ _ hz,zac,zbt,zaa _ _ _ hpF,←hC,←hD,hsc,zaa _ _ _ hgG,zac]);(try(refine xsu ?_;try exact xtI))))
    refine cI (fun h4 => ?_) fun h4 => ?_
    ·have hin2:inF f ((zaf C).getD k default)=true:=by
      cases hi:inF f ((zaf C).getD k default)with
      | true=>rfl
      | false=>have:=h4.1;unfold zcq at this;rw[hi]at this;simp at this
     have hlk:lk f b Fq D (zeg f b Fq D (zfd Nod.all m) ((zaf C).take k)) ((zaf C).getD k default)=zdh Nod.all (zeg f b Fq D (zfd Nod.all m) ((zaf C).take k)) ⟨((zaf C).getD k default),D+(zcq f ((zaf C).getD k default)).1,D+(zcq f ((zaf C).getD k default)).1+zbb b ((zaf C).getD k default)⟩:=by unfold lk;rw[if_pos ⟨h4.1,by rw[←zin hin2];exact h4.2⟩]
     rw[hlk]at hst
     (iterate 2((try simp(etaStruct := .none)only[push_cast,seval,hzd,zaa _ _ _ hbF,zaa _ _ _ hz,zac,zbt,zaa _ _ _ hpF,←hC,←hD,hsc,zaa _ _ _ hgG,zac,hst]);(try(refine xsu ?_;try exact xtI))))
     refine caM [0,1,3] (z8k f b Fq (zeg f b Fq D (zfd Nod.all m) ((zaf C).take k)) ((zaf C).getD k default) (D+(zcq f ((zaf C).getD k default)).1) (by omega) hsn.1 hsn.2 (by omega) (by omega) (by omega)) ?_
     (iterate 2((try simp(etaStruct := .none)only[push_cast,seval,hzd,zaa _ _ _ hbF,zaa _ _ _ hz,zac,zbt,zaa _ _ _ hpF,←hC,←hD,hsc,zaa _ _ _ hgG,zac,hst]);(try(refine xsu ?_;try exact xtI))))
     refine⟨k+1,by omega,by omega,To.mk [0,1,2,58,4] rfl rfl (by decide) ?_ ?_⟩
     ·(iterate 2((try simp(etaStruct := .none)only[push_cast,seval,hzd,zaa _ _ _ hbF,zaa _ _ _ hz,zac,zbt,zaa _ _ _ hpF,←hC,←hD,hsc,zaa _ _ _ hgG,zac,hst]);(try(refine xsu ?_;try exact xtI))))
     ·(iterate 2((try simp(etaStruct := .none)only[push_cast,seval,hzd,zaa _ _ _ hbF,zaa _ _ _ hz,zac,zbt,zaa _ _ _ hpF,←hC,←hD,hsc,zaa _ _ _ hgG,zac,hst]);(try(refine xsu ?_;try exact xtI))))
    ·have hlk:lk f b Fq D (zeg f b Fq D (zfd Nod.all m) ((zaf C).take k)) ((zaf C).getD k default)=(zeg f b Fq D (zfd Nod.all m) ((zaf C).take k)):=by
      unfold lk
      rw[if_neg]
      rintro⟨c1,c2⟩
      have hin2:inF f ((zaf C).getD k default)=true:=by
       cases hi:inF f ((zaf C).getD k default)with
       | true=>rfl
       | false=>unfold zcq at c1;rw[hi]at c1;simp at c1
      rw[←zin hin2]at c2
      rcases h4 with h4|h4
      ·rw[c1]at h4;exact absurd h4 (by decide)
      ·omega
     rw[hlk]at hst
     (iterate 2((try simp(etaStruct := .none)only[push_cast,seval,hzd,zaa _ _ _ hbF,zaa _ _ _ hz,zac,zbt,zaa _ _ _ hpF,←hC,←hD,hsc,zaa _ _ _ hgG,zac,hst]);(try(refine xsu ?_;try exact xtI))))
     refine⟨k+1,by omega,by omega,To.mk [0,1,2,3,4] rfl rfl (by decide) ?_ ?_⟩
     ·(iterate 2((try simp(etaStruct := .none)only[push_cast,seval,hzd,zaa _ _ _ hbF,zaa _ _ _ hz,zac,zbt,zaa _ _ _ hpF,←hC,←hD,hsc,zaa _ _ _ hgG,zac,hst]);(try(refine xsu ?_;try exact xtI))))
     ·(iterate 2((try simp(etaStruct := .none)only[push_cast,seval,hzd,zaa _ _ _ hbF,zaa _ _ _ hz,zac,zbt,zaa _ _ _ hpF,←hC,←hD,hsc,zaa _ _ _ hgG,zac,hst]);(try(refine xsu ?_;try exact xtI))))
   ·obtain rfl:k=4:=by omega
    have ht4:(zaf C).take 4=zaf C:=rfl
    have hpc:zal f C<f.p.length:=by omega
    have h4:=z6t hw hh hW hf hL b hA2 hpc hself j0 top hb3 4 (Nat.le_refl _)
    rw[hidx,←e1,ht4,←hidx]at h4
    have h5:=zus hw hh hW hL hpc h4
    have hll:=zkz f b Fq D (zaf C) (zfd Nod.all m)
    rw[zf5,show (zaf C).length=4 from rfl]at hll
    have hcl2:=zgq zej 1 zgv Fq
    rw[hFl]at hcl2
    (iterate 2((try simp(etaStruct := .none)only[push_cast,seval,hzd,zaa _ _ _ hbF,zaa _ _ _ hz,zac,zbt,zaa _ _ _ hpF,←hC,←hD,ht4]);(try(refine xsu ?_;try exact xtI))))
    refine⟨(M',Fq,zeg f b Fq D (zfd Nod.all m) (zaf C)),⟨h5,by simp only;unfold muS at hm ⊢;omega,by simp only;omega,by rw[←hu,hrun,if_neg (by rw[hC];omega)]⟩,by simp only;omega,To.mk [0,1,2,3] rfl rfl (by decide) ?_ ?_⟩
    ·(iterate 2((try simp(etaStruct := .none)only[push_cast,seval,hzd,zaa _ _ _ hbF,zaa _ _ _ hz,zac,zbt,zaa _ _ _ hpF,←hC,←hD,ht4]);(try(refine xsu ?_;try exact xtI))))
    ·(iterate 2((try simp(etaStruct := .none)only[push_cast,seval,hzd,zaa _ _ _ hbF,zaa _ _ _ hz,zac,zbt,zaa _ _ _ hpF,←hC,←hD,ht4]);(try(refine xsu ?_;try exact xtI))))
 ·rw[←hu,z8b (fun h=>by have:=h.2;omega) M]
  (iterate 2((try simp(etaStruct := .none)only[push_cast,seval,hzd,zaa _ _ _ hbF,zaa _ _ _ hz,zac,zbt]);(try(refine xsu ?_;try exact xtI))))
  refine zb6 [0,1,2,3] rfl rfl (by decide) ⟨?_,?_,?_,?_,trivial⟩ trivial ?_<;>simp(etaStruct := .none)only[push_cast,zab,seval]
theorem zzh (f:Fld) (b:Cel) (far:List Int) (x:Nod):Spec Tryz.prog 219 [.ptr 0 0 6,.ifc 327 (yba x)] [.blk 300 [I .i64 f.w,I .i64 f.h,.c (.sl 1 (f.p.map zac)),I .i64 b.x,I .i64 b.y,.own 1,.c (.v (.slice none 0 0))],.row 3 1 (far.map zac)] (.tup []) [.blk 300 [I .i64 f.w,I .i64 f.h,.c (.sl 1 (f.p.map zac)),I .i64 b.x,I .i64 b.y,.own 1,.own 2],.row 3 1 (far.map zac),.row 327 4 ([x].map zbt)]:=by
 refine spB Tryz.func219 13 [] Tryz.results219 ?_
 try refine xst ?_
 (try(refine⟨by kernel_rfl,?_⟩))
 try refine xst ?_
 refine zb6 [0,1,30] rfl rfl (by decide) ⟨?_,?_,?_,trivial⟩ trivial ?_<;>simp(etaStruct := .none)only[push_cast,zab,seval,zbt]
theorem zzo (f:Fld) (b:Cel) (far:List Int) (x:Nod):Spec Tryz.prog 189 [.ifc 325 (.ptr 0 0 6),.ifc 327 (yba x)] [.blk 300 [I .i64 f.w,I .i64 f.h,.c (.sl 1 (f.p.map zac)),I .i64 b.x,I .i64 b.y,.own 1,.c (.v (.slice none 0 0))],.row 3 1 (far.map zac)] (.tup []) [.blk 300 [I .i64 f.w,I .i64 f.h,.c (.sl 1 (f.p.map zac)),I .i64 b.x,I .i64 b.y,.own 1,.own 2],.row 3 1 (far.map zac),.row 327 4 ((zdh Nod.all [] x).map zbt)]:=by
 refine spB Tryz.func189 12 [] Tryz.results189 ?_
 try refine xst ?_
 refine caM [0,1] (zzh f b far x) ?_
 try refine xst ?_
 refine zcl (zpx [x]) (WkL.refl _) rfl ?_
 try refine xst ?_
 refine caM [0,1,2] (yci f b far [x] 0 (by simp) (by simp)) ?_
 try refine xst ?_
 refine zb6 [0,1,2] rfl rfl (by decide) ⟨?_,?_,?_,trivial⟩ trivial ?_<;>simp(etaStruct := .none)only[push_cast,zab,seval,zdh]
abbrev srB (f:Fld) (b:Cel) (x y:AV):Chunk := .blk 300 [I .i64 f.w,I .i64 f.h,.c (.sl 1 (f.p.map zac)),I .i64 b.x,I .i64 b.y,x,y]
theorem zt5 (f:Fld) (b:Cel) (far:List Int) (c:Cel) (d:Int) (hx : -1000≤c.x∧c.x≤1000) (hy : -1000≤c.y∧c.y≤1000) (hbx:0≤b.x∧b.x≤40) (hby:0≤b.y∧b.y≤40) (hd:0≤d∧d≤1000000):Spec Tryz.prog 179 [.ptr 0 0 0,zg6 c,I .i64 d] [.blk 300 [I .i64 f.w,I .i64 f.h,.c (.sl 1 (f.p.map zac)),I .i64 b.x,I .i64 b.y,.own 1,.c (.v (.slice none 0 0))],.row 3 1 (far.map zac)] (.tup []) [.blk 300 [I .i64 f.w,I .i64 f.h,.c (.sl 1 (f.p.map zac)),I .i64 b.x,I .i64 b.y,.own 1,.own 2],.row 3 1 (far.map zac),.row 327 4 ((zdh Nod.all [] ⟨c,d,d+zbb b c⟩).map zbt)]:=by
 have e1:IntKind.i64.wrap (d+IntKind.i64.wrap (2*(((b.x-c.x).natAbs+(b.y-c.y).natAbs:Nat):Int)))=d+zbb b c:=by unfold zbb;rw[zak (2*_) (by omega) (by omega),zak _ (by omega) (by omega)]
 refine spB Tryz.func179 32 [] Tryz.results179 ?_
 try refine xz1 e1 ?_
 refine caP (znu c b (by simp[zd2];omega) (by simp[zd2];omega)) ?_
 try refine xz1 e1 ?_
 (try(refine⟨by kernel_rfl,?_⟩))
 try refine xz1 e1 ?_
 refine zfj [0,1] (zzo f b far ⟨c,d,d+zbb b c⟩) (WkL.refl _) rfl (by decide) (by simp[zbu,zez,zq9]) ?_
 try refine xz1 e1 ?_
 (try(refine⟨by kernel_rfl,?_⟩))
 try refine xz1 e1 ?_
 refine zb6 [0,1,103] rfl rfl (by decide) ⟨?_,?_,?_,trivial⟩ trivial ?_<;>simp(etaStruct := .none)only[push_cast,zab,seval]
theorem zmw {f:Fld} {c:Cel} (hf:zbv f=0):atV f c=if inF f c then (zah f c,0)else (0,7):=by unfold atV;rw[if_neg (by simp[hf])]
theorem zrv (f:Fld) (a b:Cel) (hl:f.p.length≤9223372036854775807) (hE:zbv f≠0∨¬(inF f a=true∧inF f b=true)∨zah f a=1∨zah f b=1) (R:List Int):Spec Tryz.prog 160 [z45 f,zg6 a,zg6 b] [] (.tup [.c (.v (.pointer none)),I .i64 (zlk R f a b)]) []:=by
 have key:(atV f a).2≠0∧zlk R f a b=(atV f a).2∨(atV f a).2=0∧(atV f b).2≠0∧zlk R f a b=(atV f b).2∨(atV f a).2=0∧(atV f b).2=0∧zlk R f a b=9∧((atV f a).1=1∨(atV f b).1=1):=by
  by_cases hf:zbv f=0
  ·rw[zmw hf,zmw hf]
   unfold zlk
   cases ha:inF f a with
   | false=>exact .inl ⟨by simp[ha],by simp[ha,hf]⟩
   | true =>
    cases hb:inF f b with
    | false=>exact .inr (.inl ⟨by simp[ha],by simp[hb],by simp[hb,hf]⟩)
    | true =>
     rcases hE with h|h|h
     ·exact absurd hf h
     ·exact absurd ⟨ha,hb⟩ h
     ·exact .inr (.inr ⟨by simp[ha],by simp[hb],by simp[ha,hb,hf,h],by simpa[ha,hb]using h⟩)
  ·have e:∀c,atV f c=(0,zbv f):=fun c=>by unfold atV;rw[if_pos hf]
   rw[e]
   unfold zlk
   rw[if_pos hf]
   exact .inl ⟨hf,rfl⟩
 refine spB Tryz.func160 61 [.tmp 6,.tmp 7] Tryz.results160 ?_
 try refine xst ?_
 refine caP (zxv f a hl) ?_
 try refine xst ?_
 refine cI (fun h1 => ?_) fun h1 => ?_
 ·have e:zlk R f a b=(atV f a).2:=by
   rcases key with k|k|k
   ·exact k.2
   ·exact absurd k.1 h1
   ·exact absurd k.1 h1
  try refine xst ?_
  (first|(refine zas rfl (Wk.of ?_);(try simp(etaStruct := .none)only[push_cast,zab,seval]);first|done|(simp[e, *];done)|(simp_all[e];done))|(refine zas rfl ?_;(try simp(etaStruct := .none)only[push_cast,zab,seval]);(try simp[e, *]);(try exact wkc)))
 ·try refine xst ?_
  refine caP (zxv f b hl) ?_
  try refine xst ?_
  refine cI (fun h2 => ?_) fun h2 => ?_
  ·have e:zlk R f a b=(atV f b).2:=by
    rcases key with k|k|k
    ·exact absurd h1 k.1
    ·exact k.2.2
    ·exact absurd k.2.1 h2
   try refine xst ?_
   (first|(refine zas rfl (Wk.of ?_);(try simp(etaStruct := .none)only[push_cast,zab,seval]);first|done|(simp[e, *];done)|(simp_all[e];done))|(refine zas rfl ?_;(try simp(etaStruct := .none)only[push_cast,zab,seval]);(try simp[e, *]);(try exact wkc)))
  ·try refine xst ?_
   refine cI (fun h3 => ?_) fun h3 => ?_
   ·have e:zlk R f a b=9:=by
     rcases key with k|k|k
     ·exact absurd h1 k.1
     ·exact absurd h2 k.2.1
     ·exact k.2.2.1
    try refine xst ?_
    (first|(refine zas rfl (Wk.of ?_);(try simp(etaStruct := .none)only[push_cast,zab,seval]);first|done|(simp[e, *];done)|(simp_all[e];done))|(refine zas rfl ?_;(try simp(etaStruct := .none)only[push_cast,zab,seval]);(try simp[e, *]);(try exact wkc)))
   ·exfalso
    rcases key with k|k|k
    ·exact absurd h1 k.1
    ·exact absurd h2 k.2.1
    ·have:=k.2.2.2;omega
def zcn (f:Fld) (a b:Cel):List Int × List Nod:=zke f b 8001 (List.replicate f.p.length (-1)) (zdh Nod.all [] ⟨a,0,0+zbb b a⟩)
theorem ygs (f:Fld) (x:Nod) (h:f.p.length≤1600):muS f (List.replicate f.p.length (-1)) (zdh Nod.all [] x)≤8001:=by
 unfold muS;rw[zk5];simp only[List.length_nil];omega
theorem As0 {f:Fld} {W H:Nat} (hw:f.w=(W:Int)) (hh:f.h=(H:Int)) (hW:0<W) (hf:zbv f=0) (b:Cel) {a:Cel} (ha:inF f a=true):As W f.p (zal f a) (fun n=>zbb b (zdk W n)) (List.replicate f.p.length (-1)) (zdh Nod.all [] ⟨a,0,0+zbb b a⟩) fun _ _=>True:=by
 obtain⟨e,hlt⟩:=zbd hw hh hW hf ha
 have:=As.start (W:=W) (pl:=f.p) (a:=zal f a) (hh:=fun n=>zbb b (zdk W n)) hlt
 rw[←e]at this
 exact this
theorem z97 {f:Fld} (hf:zbv f=0):∃W H:Nat,f.w=(W:Int)∧f.h=(H:Int)∧0<W∧f.p.length=W*H:=by
 obtain⟨⟨w1,w2⟩,⟨w3,w4⟩,wl,wp⟩:=zbh hf
 obtain⟨W,hW⟩:∃W:Nat,f.w=(W:Int):=Int.eq_ofNat_of_zero_le (by omega)
 obtain⟨H,hH⟩:∃H:Nat,f.h=(H:Int):=Int.eq_ofNat_of_zero_le (by omega)
 exact⟨W,H,hW,hH,by omega,by rw[hW,hH]at wl;exact_mod_cast wl⟩
structure Srch (f : Fld) (a b : Cel) (R : List Int) (W H : Nat) : Prop where
 w:f.w=(W:Int)
 h:f.h=(H:Int)
 w0:0<W
 l:f.p.length=W*H
 r:Flood W f.p [zal f a] R
 ass:As W f.p (zal f a) (fun n=>zbb b (zdk W n)) (zcn f a b).1 (zcn f a b).2 fun _ _=>True
 no:¬goB f b (zcn f a b).1 (zcn f a b).2
theorem yem {f:Fld} {a b:Cel} {R:List Int} (hf:zbv f=0) (ha:inF f a=true) (hpa:zah f a≠1) (hR:zap f [a] R):∃W H,Srch f a b R W H:=by
 obtain⟨W,H,hw,hh,hW,hL⟩:=z97 hf
 have hA:=yca hw hh hW hf hL b 8001 _ _ (As0 hw hh hW hf b ha) (ygs f _ (zbm hf ha).2.2.2.2)
 have hlt:=(zbd hw hh hW hf ha).2
 obtain⟨F,hF⟩:=z44 (W:=W) (pl:=f.p) (s := [zal f a]) hW (zbm hf ha).2.2.2.2 (by intro p hp;rw[List.mem_singleton]at hp;rw[hp];exact hlt)
 have e:zqq f [a]=0:=by
  unfold zqq yen yen
  rw[if_neg (by simp[hf]),if_neg (by simp),if_pos ha,if_neg hpa]
 have:=hR.1 e F (by rw[hw,Int.toNat_natCast];exact hF)
 subst this
 exact⟨W,H,hw,hh,hW,hL,hF,hA.1,hA.2⟩
theorem Srch.end {f:Fld} {a b:Cel} {R:List Int} {W H:Nat} (s:Srch f a b R W H) (hf:zbv f=0) (ha:inF f a=true) (hb:inF f b=true):((zcn f a b).1.getD (zal f b) default<0↔R.getD (zal f b) default<0)∧(0≤R.getD (zal f b) default→(zcn f a b).1.getD (zal f b) default=R.getD (zal f b) default∧∀x∈(zcn f a b).2,R.getD (zal f b) default<x.all):=by
 have hcons:=zn0 s.w s.h s.w0 b
 rw[←s.l]at hcons
 have haL:=(zbd s.w s.h s.w0 hf ha).2
 have hbL:=(zbd s.w s.h s.w0 hf hb).2
 have h1:∀h:0≤(zcn f a b).1.getD (zal f b) default,(zcn f a b).1.getD (zal f b) default=R.getD (zal f b) default:=fun h=>s.ass.same hcons haL s.r hbL h
 have h2:(zcn f a b).1.getD (zal f b) default<0→R.getD (zal f b) default<0:=fun h=>by
  rcases Int.lt_or_le (R.getD (zal f b) default) 0 with h3|h3
  ·exact h3
  ·have hq:(zcn f a b).2 = []:=by
    have:=s.no
    unfold goB at this
    cases hq:(zcn f a b).2 with
    | nil=>rfl
    | cons x r=>exact absurd ⟨by rw[hq];simp,.inl h⟩ this
   have:=s.ass.known hcons haL s.r hbL h3 (by rw[hq];intro x hx;simp at hx)
   omega
 refine⟨⟨h2,fun h => ?_⟩,fun h => ?_⟩
 ·rcases Int.lt_or_le ((zcn f a b).1.getD (zal f b) default) 0 with h3|h3
  ·exact h3
  ·have:=h1 h3;omega
 ·have h3:0≤(zcn f a b).1.getD (zal f b) default:=by
   rcases Int.lt_or_le ((zcn f a b).1.getD (zal f b) default) 0 with h3|h3
   ·have:=h2 h3;omega
   ·exact h3
  have h4:=h1 h3
  refine⟨h4,fun x hx => ?_⟩
  obtain⟨k,hk,rfl⟩:=mem_getD.1 hx
  have hle:=zn1 _ s.ass.heap k hk
  have:=s.no
  unfold goB at this
  rw[h4]at this
  rcases Int.lt_or_le (R.getD (zal f b) default) ((zcn f a b).2.getD k default).all with h5|h5
  ·exact h5
  ·exact absurd ⟨by omega,.inr (by omega)⟩ this
theorem zpa (f:Fld) (a b:Cel) (hl:f.p.length≤9223372036854775807) {R:List Int} (hf:zbv f=0) (ha:inF f a=true) (hb:inF f b=true) (hpa:zah f a≠1) (hpb:zah f b≠1) (hR:zap f [a] R) (h0:R.getD (zal f b) default<0):Spec Tryz.prog 160 [z45 f,zg6 a,zg6 b] [] (.tup [.c (.v (.pointer none)),I .i64 6]) []:=by
 obtain⟨W,H,s⟩:=yem (b:=b) hf ha hpa hR
 have hend:=s.end hf ha hb
 obtain⟨hw,hh,hW,hL,hFl,hAe,_⟩:=s
 have hA0:=As0 hw hh hW hf b ha
 have hmu0:=ygs f ⟨a,0,0+zbb b a⟩ (zbm hf ha).2.2.2.2
 have hai:=inF_iff.1 ha
 have hbi:=inF_iff.1 hb
 have hfo:=zbh hf
 have hpx:=zbm hf ha
 have hrunS:zke f b 8001 (List.replicate f.p.length (-1)) (zdh Nod.all [] ⟨a,0,0+zbb b a⟩)=zcn f a b:=rfl
 have hbF:zal f b<(zcn f a b).1.length:=by rw[hAe.len];exact(zbd hw hh hW hf hb).2
 refine spB Tryz.func160 61 [.tmp 6,.tmp 7] Tryz.results160 ?_
 iterate 2(try simp(etaStruct := .none)only[push_cast,zab,seval,Int.ofNat_zero,hrunS,zaa _ _ _ hbF,zac];try refine xsu ?_)
 refine caP (zxv f a hl) ?_
 rw[zmw hf,if_pos ha]
 iterate 2(try simp(etaStruct := .none)only[push_cast,zab,seval,Int.ofNat_zero,hrunS,zaa _ _ _ hbF,zac];try refine xsu ?_)
 refine cI (fun h1 => ?_) fun h1 => ?_
 ·exact absurd h1 (by decide)
 ·iterate 2(try simp(etaStruct := .none)only[push_cast,zab,seval,Int.ofNat_zero,hrunS,zaa _ _ _ hbF,zac];try refine xsu ?_)
  refine caP (zxv f b hl) ?_
  rw[zmw hf,if_pos hb]
  iterate 2(try simp(etaStruct := .none)only[push_cast,zab,seval,Int.ofNat_zero,hrunS,zaa _ _ _ hbF,zac];try refine xsu ?_)
  refine cI (fun h2 => ?_) fun h2 => ?_
  ·exact absurd h2 (by decide)
  ·iterate 2(try simp(etaStruct := .none)only[push_cast,zab,seval,Int.ofNat_zero,hrunS,zaa _ _ _ hbF,zac];try refine xsu ?_)
   refine cI (fun h3 => ?_) fun h3 => ?_
   ·rcases h3 with h3|h3
    ·exact absurd h3 hpa
    ·exact absurd h3 hpb
   ·iterate 2(try simp(etaStruct := .none)only[push_cast,zab,seval,Int.ofNat_zero,hrunS,zaa _ _ _ hbF,zac];try refine xsu ?_)
    refine zfj [11] (ztw f.p.length (by omega) (by omega)) (WkL.refl _) rfl (by decide) (by simp[zbu,zez,zq9]) ?_
    iterate 2(try simp(etaStruct := .none)only[push_cast,zab,seval,Int.ofNat_zero,hrunS,zaa _ _ _ hbF,zac];try refine xsu ?_)
    (try(refine⟨by kernel_rfl,?_⟩))
    iterate 2(try simp(etaStruct := .none)only[push_cast,zab,seval,Int.ofNat_zero,hrunS,zaa _ _ _ hbF,zac];try refine xsu ?_)
    refine caM [35,27] (zt5 f b (List.replicate f.p.length (-1)) a 0 (by omega) (by omega) (by omega) (by omega) (by omega)) ?_
    iterate 2(try simp(etaStruct := .none)only[push_cast,zab,seval,Int.ofNat_zero,hrunS,zaa _ _ _ hbF,zac];try refine xsu ?_)
    refine caM [35,27,43] (z6q f b hw hh hW hf hL hb (zal f a) 8001 (List.replicate f.p.length (-1)) (zdh Nod.all [] ⟨a,0,0+zbb b a⟩) hA0 hmu0 (by decide)) ?_
    iterate 2(try simp(etaStruct := .none)only[push_cast,zab,seval,Int.ofNat_zero,hrunS,zaa _ _ _ hbF,zac];try refine xsu ?_)
    refine zcl (zd4 f b (zcn f a b).1 (zcn f a b).2 b hf hb) (WkL.refl _) rfl ?_
    iterate 2(try simp(etaStruct := .none)only[push_cast,zab,seval,Int.ofNat_zero,hrunS,zaa _ _ _ hbF,zac];try refine xsu ?_)
    (try(refine⟨by kernel_rfl,?_⟩))
    iterate 2(try simp(etaStruct := .none)only[push_cast,zab,seval,Int.ofNat_zero,hrunS,zaa _ _ _ hbF,zac];try refine xsu ?_)
    refine cI (fun h4 => ?_) fun h4 => ?_
    ·iterate 2(try simp(etaStruct := .none)only[push_cast,zab,seval,Int.ofNat_zero,hrunS,zaa _ _ _ hbF,zac];try refine xsu ?_)
     exact xrz rfl
    ·exact absurd (hend.1.2 h0) (by omega)
theorem zru (f:Fld) (a b:Cel) (hl:f.p.length≤9223372036854775807) {R:List Int} (hf:zbv f=0) (ha:inF f a=true) (hb:inF f b=true) (hpa:zah f a≠1) (hpb:zah f b≠1) (hR:zap f [a] R) (h0:0≤R.getD (zal f b) default):Spec Tryz.prog 160 [z45 f,zg6 a,zg6 b] [] (.tup [.ptr 0 0 0,I .i64 0]) [srB f b (.own 1) (.own 2),.row 3 1 ((zcn f a b).1.map zac),.row 327 4 ((zcn f a b).2.map zbt)]:=by
 obtain⟨W,H,s⟩:=yem (b:=b) hf ha hpa hR
 have hend:=s.end hf ha hb
 obtain⟨hw,hh,hW,hL,hFl,hAe,_⟩:=s
 have hA0:=As0 hw hh hW hf b ha
 have hmu0:=ygs f ⟨a,0,0+zbb b a⟩ (zbm hf ha).2.2.2.2
 have hai:=inF_iff.1 ha
 have hbi:=inF_iff.1 hb
 have hfo:=zbh hf
 have hpx:=zbm hf ha
 have hrunS:zke f b 8001 (List.replicate f.p.length (-1)) (zdh Nod.all [] ⟨a,0,0+zbb b a⟩)=zcn f a b:=rfl
 have hbF:zal f b<(zcn f a b).1.length:=by rw[hAe.len];exact(zbd hw hh hW hf hb).2
 refine spB Tryz.func160 61 [.tmp 6,.tmp 7] Tryz.results160 ?_
 iterate 2(try simp(etaStruct := .none)only[push_cast,zab,seval,Int.ofNat_zero,hrunS,zaa _ _ _ hbF,zac];try refine xsu ?_)
 refine caP (zxv f a hl) ?_
 rw[zmw hf,if_pos ha]
 iterate 2(try simp(etaStruct := .none)only[push_cast,zab,seval,Int.ofNat_zero,hrunS,zaa _ _ _ hbF,zac];try refine xsu ?_)
 refine cI (fun h1 => ?_) fun h1 => ?_
 ·exact absurd h1 (by decide)
 ·iterate 2(try simp(etaStruct := .none)only[push_cast,zab,seval,Int.ofNat_zero,hrunS,zaa _ _ _ hbF,zac];try refine xsu ?_)
  refine caP (zxv f b hl) ?_
  rw[zmw hf,if_pos hb]
  iterate 2(try simp(etaStruct := .none)only[push_cast,zab,seval,Int.ofNat_zero,hrunS,zaa _ _ _ hbF,zac];try refine xsu ?_)
  refine cI (fun h2 => ?_) fun h2 => ?_
  ·exact absurd h2 (by decide)
  ·iterate 2(try simp(etaStruct := .none)only[push_cast,zab,seval,Int.ofNat_zero,hrunS,zaa _ _ _ hbF,zac];try refine xsu ?_)
   refine cI (fun h3 => ?_) fun h3 => ?_
   ·rcases h3 with h3|h3
    ·exact absurd h3 hpa
    ·exact absurd h3 hpb
   ·iterate 2(try simp(etaStruct := .none)only[push_cast,zab,seval,Int.ofNat_zero,hrunS,zaa _ _ _ hbF,zac];try refine xsu ?_)
    refine zfj [11] (ztw f.p.length (by omega) (by omega)) (WkL.refl _) rfl (by decide) (by simp[zbu,zez,zq9]) ?_
    iterate 2(try simp(etaStruct := .none)only[push_cast,zab,seval,Int.ofNat_zero,hrunS,zaa _ _ _ hbF,zac];try refine xsu ?_)
    (try(refine⟨by kernel_rfl,?_⟩))
    iterate 2(try simp(etaStruct := .none)only[push_cast,zab,seval,Int.ofNat_zero,hrunS,zaa _ _ _ hbF,zac];try refine xsu ?_)
    refine caM [35,27] (zt5 f b (List.replicate f.p.length (-1)) a 0 (by omega) (by omega) (by omega) (by omega) (by omega)) ?_
    iterate 2(try simp(etaStruct := .none)only[push_cast,zab,seval,Int.ofNat_zero,hrunS,zaa _ _ _ hbF,zac];try refine xsu ?_)
    refine caM [35,27,43] (z6q f b hw hh hW hf hL hb (zal f a) 8001 (List.replicate f.p.length (-1)) (zdh Nod.all [] ⟨a,0,0+zbb b a⟩) hA0 hmu0 (by decide)) ?_
    iterate 2(try simp(etaStruct := .none)only[push_cast,zab,seval,Int.ofNat_zero,hrunS,zaa _ _ _ hbF,zac];try refine xsu ?_)
    refine zcl (zd4 f b (zcn f a b).1 (zcn f a b).2 b hf hb) (WkL.refl _) rfl ?_
    iterate 2(try simp(etaStruct := .none)only[push_cast,zab,seval,Int.ofNat_zero,hrunS,zaa _ _ _ hbF,zac];try refine xsu ?_)
    (try(refine⟨by kernel_rfl,?_⟩))
    iterate 2(try simp(etaStruct := .none)only[push_cast,zab,seval,Int.ofNat_zero,hrunS,zaa _ _ _ hbF,zac];try refine xsu ?_)
    refine cI (fun h4 => ?_) fun h4 => ?_
    ·exact absurd (hend.1.1 h4) (by omega)
    ·iterate 2(try simp(etaStruct := .none)only[push_cast,zab,seval,Int.ofNat_zero,hrunS,zaa _ _ _ hbF,zac];try refine xsu ?_)
     refine zb6 [35,27,44] rfl rfl (by decide) ⟨?_,?_,?_,trivial⟩ trivial ?_<;>simp(etaStruct := .none)only[push_cast,zab,seval]
end Go.Proofs.YtmjbgbmegbkmhaaGreat
namespace Go.Proofs.YtmjbgbmegbkmhaaGreat
set_option linter.all false
open Go.RowKit
set_option maxRecDepth 100000
set_option maxHeartbeats 1000000
def z1j (l:List Sea) (T:List Nat):List Sea:=(List.range l.length).map fun i=>⟨(l.getD i default).waits.drop (T.getD i default),(zbj (l.getD i default)).late,(l.getD i default).gone⟩
theorem z1i (l:List Sea) (T:List Nat):(z1j l T).length=l.length:=by simp[z1j]
theorem z5c (l:List Sea) (T:List Nat) (i:Nat) (h:i<l.length):(z1j l T).getD i default=⟨(l.getD i default).waits.drop (T.getD i default),(zbj (l.getD i default)).late,(l.getD i default).gone⟩:=by
 rw[zad _ _ (by rw[z1i];exact h)]
 simp[z1j]
theorem zn9 {α : Type} [Inhabited α] {l m:List α} (h:l.length=m.length) (h2:∀i,i<l.length→l.getD i default=m.getD i default):l=m:=by
 refine List.ext_getElem h fun i i1 i2 => ?_
 have:=h2 i i1
 rwa [zad _ _ i1,zad _ _ i2]at this
theorem zji {α : Type} [Inhabited α] (l:List α) (i j:Nat) (x : α) (h:i<l.length):(l.set i x).getD j default=if i=j then x else l.getD j default:=by
 by_cases e:i=j
 ·subst e;rw[if_pos rfl,zad _ _ (by simpa using h)];simp
 ·rw[if_neg e,List.getD_eq_getElem?_getD,List.getElem?_set_ne e,List.getD_eq_getElem?_getD]
def TkQ (most:Int) (l:List Sea) (k i:Nat) (o:List Ord) (U:List Nat):Prop :=
 U.length=l.length∧o.length≤100∧(∀j,j<l.length→U.getD j default≤(l.getD j default).waits.length) ∧
 ((o.length:Int)<most→∀j,j<l.length→U.getD j default=if j<i then min (k+1) (l.getD j default).waits.length else min k (l.getD j default).waits.length)
theorem TkQ.t {most:Int} {l:List Sea} {k i:Nat} {o:List Ord} {U:List Nat} (h:TkQ most l k i o U) (hi:i<l.length) (hk:k<(l.getD i default).waits.length) (hm:(o.length:Int)<most) (hm2:most≤100) (x:Ord) :
 U.getD i default=k∧TkQ most l k (i+1) (o ++ [x]) (U.set i (k+1)):=by
 obtain⟨h1,h2,h3,h4⟩:=h
 have e:=h4 hm i hi
 rw[if_neg (by omega),Nat.min_eq_left (by omega)]at e
 refine⟨e,by simp[h1],by simp;omega,fun j hj => ?_,fun hm' j hj => ?_⟩
 ·rw[zji _ _ _ _ (by omega)]
  split
  ·rename_i e';subst e';omega
  ·exact h3 j hj
 ·have:=h4 hm j hj
  rw[zji _ _ _ _ (by omega)]
  by_cases e':i=j
  ·subst e';rw[if_pos rfl,if_pos (by omega)];omega
  ·rw[if_neg e',this]
   by_cases e2:j<i
   ·rw[if_pos e2,if_pos (by omega)]
   ·rw[if_neg e2,if_neg (by omega)]
theorem TkQ.f {most:Int} {l:List Sea} {k i:Nat} {o:List Ord} {U:List Nat} (h:TkQ most l k i o U) (hi:i<l.length) (hc:¬(k<(l.getD i default).waits.length∧(o.length:Int)<most)):TkQ most l k (i+1) o U∧¬(0<((z1j l U).getD i default).waits.length∧(o.length:Int)<most):=by
 obtain⟨h1,h2,h3,h4⟩:=h
 refine⟨⟨h1,h2,h3,fun hm j hj => ?_⟩,?_⟩
 ·rw[h4 hm j hj]
  by_cases e:j=i
  ·subst e;rw[if_neg (by omega),if_pos (by omega)];omega
  ·by_cases e2:j<i
   ·rw[if_pos e2,if_pos (by omega)]
   ·rw[if_neg e2,if_neg (by omega)]
 ·rw[z5c _ _ _ hi]
  simp only[List.length_drop]
  rintro⟨h5,h6⟩
  have:=h4 h6 i hi
  rw[if_neg (by omega)]at this
  omega
theorem TkQ.next {most:Int} {l:List Sea} {k:Nat} {o:List Ord} {U:List Nat} (h:TkQ most l k l.length o U):TkQ most l (k+1) 0 o U:=by
 obtain⟨h1,h2,h3,h4⟩:=h
 refine⟨h1,h2,h3,fun hm j hj => ?_⟩
 rw[h4 hm j hj,if_pos hj,if_neg (by omega)]
theorem TkQ.zero (most:Int) (l:List Sea):TkQ most l 0 0 [] (List.replicate l.length 0):=by
 refine⟨by simp,by simp,fun j hj => ?_,fun _ j hj => ?_⟩<;>rw[zad _ _ (by simpa using hj)]<;>simp
end Go.Proofs.YtmjbgbmegbkmhaaGreat
namespace Go.Proofs.YtmjbgbmegbkmhaaGreat
set_option linter.all false
open Go.RowKit
set_option maxRecDepth 100000
set_option maxHeartbeats 2000000
def zrx {α : Type} [Inhabited α] (k:Nat) (l:List α):List α := (List.range l.length).map fun i=>if i<k∨l.length-k≤i then l.getD (l.length-1-i) default else l.getD i default
theorem zdn {α : Type} [Inhabited α] (k:Nat) (l:List α):(zrx k l).length=l.length:=by simp[zrx]
theorem zf3 {α : Type} [Inhabited α] (k:Nat) (l:List α) (i:Nat) (hi:i<l.length):(zrx k l).getD i default=if i<k∨l.length-k≤i then l.getD (l.length-1-i) default else l.getD i default:=by
 rw[zad _ _ (by rw[zdn];exact hi)];simp[zrx]
theorem zy1 {α : Type} [Inhabited α] (l:List α):zrx 0 l=l:=by
 refine zn9 (zdn 0 l) fun i hi => ?_
 rw[zdn]at hi
 rw[zf3 0 l i hi,if_neg (by omega)]
theorem zy2 {α : Type} [Inhabited α] (l:List α) (k:Nat) (h:2*k+1<l.length):zrx (k+1) l=((zrx k l).set k ((zrx k l).getD (l.length-1-k) default)).set (l.length-1-k) ((zrx k l).getD k default):=by
 have hrl:=zdn k l
 refine zn9 (by simp[zdn]) fun i hi => ?_
 rw[zdn]at hi
 rw[zji _ _ _ _ (by rw[List.length_set];omega),zji _ _ _ _ (by omega),zf3 _ l i hi,zf3 k l k (by omega),zf3 k l (l.length-1-k) (by omega),zf3 k l i hi]
 rw[if_neg (show ¬(l.length-1-k<k∨l.length-k≤l.length-1-k)by omega),if_neg (show ¬(k<k∨l.length-k≤k)by omega)]
 by_cases e1:l.length-1-k=i
 ·rw[if_pos e1,if_pos (by omega)];congr 1;omega
 ·rw[if_neg e1]
  by_cases e2:k=i
  ·rw[if_pos e2,if_pos (by omega)];congr 1;omega
  ·rw[if_neg e2]
   by_cases e3:i<k∨l.length-k≤i
   ·rw[if_pos e3,if_pos (by omega)]
   ·rw[if_neg e3,if_neg (by omega)]
theorem z3k {α : Type} [Inhabited α] (l:List α) (k:Nat) (h:l.length≤2*k+1):zrx k l=l.reverse:=by
 refine zn9 (by rw[zdn,List.length_reverse]) fun i hi => ?_
 rw[zdn]at hi
 rw[zf3 k l i hi,zad _ _ (show i<l.reverse.length by simpa using hi),List.getElem_reverse,←zad l _ (show l.length-1-i<l.length by omega)]
 by_cases e3:i<k∨l.length-k≤i
 ·rw[if_pos e3]
 ·rw[if_neg e3];congr 1;omega
theorem yan (l:List Cel) (hl:l.length≤1000000):Spec Tryz.prog 164 [.own 0] [.row 46 2 (l.map za6)] (.tup []) [.row 46 2 (l.reverse.map za6)]:=by
 refine spB Tryz.func164 28 [] Tryz.results164 ?_
 try refine xst ?_
 refine zay (fun k:Nat=>⟨[(3,I .i64 ((l.length:Int)-1-k)),(2,I .i64 k),(0,.own 0)],[(0,.row 46 2 ((zrx k l).map za6))],1⟩) (fun k:Nat=>2*k≤l.length) (fun k:Nat=>l.length-k) (0) (Nat.zero_le _) (To.mk [0] rfl rfl (by decide) ?_ ?_) ?_
 ·simp(etaStruct := .none)only[push_cast,zab,seval,zy1]
 ·(iterate 2((try simp(etaStruct := .none)only[push_cast,zab,seval,Int.ofNat_zero,Int.sub_zero]);(try(refine xsu ?_;try exact xtI))))
 rintro k hk
 have hrl:=zdn k l
 try refine xst ?_
 refine cI (fun h1 => ?_) fun h1 => ?_
 ·obtain⟨j,hj⟩:∃j:Nat,(l.length:Int)-1-k=(j:Int):=Int.eq_ofNat_of_zero_le (by omega)
  have hjn:j=l.length-1-k:=by omega
  have hs:=zy2 l k (by omega)
  rw[←hjn]at hs
  have hk1:k<(zrx k l).length:=by omega
  have hj1:j<(zrx k l).length:=by omega
  have hj2:j<((zrx k l).set k ((zrx k l).getD j default)).length:=by rw[List.length_set];omega
  iterate 2(try simp(etaStruct := .none)only[push_cast,zab,seval,hj,zaa _ _ _ hk1,zaa _ _ _ hj1,za6,List.length_set];try refine xsu ?_)
  (try(refine⟨by kernel_rfl,?_⟩))
  iterate 2(try simp(etaStruct := .none)only[push_cast,zab,seval,hj,zaa _ _ _ hk1,zaa _ _ _ hj1,za6,List.length_set];try refine xsu ?_)
  refine⟨k+1,by omega,by omega,To.mk [0] rfl rfl (by decide) ?_ ?_⟩
  ·(iterate 2((try simp(etaStruct := .none)only[push_cast,zab,seval,hs,List.map_set,za6]);(try(refine xsu ?_;try exact xtI))))
  ·have e1:(j:Int)-1=(l.length:Int)-1-((k:Int)+1):=by omega
   (try(refine xz1 e1 ?_;try exact xtI))
 ·have hr:=z3k l k (by omega)
  try refine xst ?_
  refine zb6 [0] rfl rfl (by decide) ⟨?_,trivial⟩ trivial ?_<;>simp(etaStruct := .none)only[push_cast,zab,seval,hr]
def yek (R:List Int) (f:Fld) (a b:Cel):Int:=if zlk R f a b=0 then R.getD (zal f b) default else 0
theorem zv2 (R:List Int) (f:Fld) (a b:Cel):(zlk R f a b≠0∧(zbv f≠0∨¬(inF f a=true∧inF f b=true)∨zah f a=1∨zah f b=1))∨(zbv f=0∧inF f a=true∧inF f b=true∧zah f a≠1∧zah f b≠1∧((zlk R f a b=6∧R.getD (zal f b) default<0)∨(zlk R f a b=0∧0≤R.getD (zal f b) default))):=by
 unfold zlk
 by_cases h1:zbv f=0
 ·rw[if_neg (by simp[h1])]
  by_cases h2:inF f a=true∧inF f b=true
  ·rw[if_neg (fun h=>h h2)]
   by_cases h3:zah f a=1∨zah f b=1
   ·rw[if_pos h3];exact .inl ⟨by decide,.inr (.inr h3)⟩
   ·rw[if_neg h3]
    refine .inr ⟨h1,h2.1,h2.2,fun h=>h3 (.inl h),fun h=>h3 (.inr h),?_⟩
    by_cases h4:R.getD (zal f b) default<0
    ·rw[if_pos h4];exact .inl ⟨rfl,h4⟩
    ·rw[if_neg h4];exact .inr ⟨rfl,by omega⟩
  ·rw[if_pos h2];exact .inl ⟨by decide,.inr (.inl h2)⟩
 ·rw[if_pos h1];exact .inl ⟨h1,.inl h1⟩
end Go.Proofs.YtmjbgbmegbkmhaaGreat
