/- Lemmas for the proof of topMist.proved. -/
import Derived.Test.YtmjbgbmegbkmhaaGreatTMi5
namespace Go.Proofs.YtmjbgbmegbkmhaaGreat
set_option linter.all false
open Go.RowKit
set_option maxRecDepth 100000
set_option maxHeartbeats 2000000
structure Sea where
 waits:List Ord
 late:Int
 gone:Bool
 deriving DecidableEq, Inhabited
def zbu (s:Sea):List PV := [.sl 6 (s.waits.map zd4),pI s.late,pB s.gone]
theorem zcf (s:Sea):zbu s = [.sl 6 (s.waits.map zd4),pI s.late,pB s.gone]:=rfl
abbrev ygh (s:Sea):AV := .agg [.c (.sl 6 (s.waits.map zd4)),I .i64 s.late,B s.gone]
def zf0 (s:Sea):Prop:=s.waits.length≤2932031007402
def zjk (i:Int) (o:Ord):Bool := !decide (o.by_=i) || !decide (zer o=0)
def zmy (s:Sea):Bool := !zai s.late 0 1000000||(s.gone&&(!decide (s.late=0)||decide (0<s.waits.length)))
def zp0 (s:Sea) (i:Int):Bool := !zmy s && !s.waits.any (zjk i)
def za6 (l:List Sea):Int :=
 if l.length<1∨8<l.length then 1 else if l.any (fun s=>decide (50<s.waits.length))then 2 else
 if (List.range l.length).all (fun i=>zp0 (l.getD i default) i)then 0 else 4
theorem yea (F:FuncId) (a b:List AV) (l:List Ord) (p:Ord→Bool) (hl:l.length≤9223372036854775807) (hp:∀n∈l,Spec Tryz.prog F (a ++ [zpf n]++b) [] (B (p n)) []) (ha:∀h,cvL [] h a=a) (hb:∀h,cvL [] h b=b) :
 Spec Tryz.prog 39 [.c (.sl 6 (l.map zd4)),.clo (.func F) a b] [] (I .i64 (zh9 p l)) []:=by
 refine spB Tryz.func39 19 [.tmp 4] Tryz.results39 ?_
 simp(etaStruct := .none)only[push_cast,zab,seval]
 refine zaw (fun k:Nat=>⟨[(8,I .i64 k),(7,I .i64 l.length),(0,.c (.sl 6 (l.map zd4))),(1,.clo (.func F) a b)],[],0⟩) (fun k=>k≤l.length∧∀j (hj:j<l.length),j<k→p l[j]=false) (fun k=>l.length-k) 0 ⟨Nat.zero_le _,fun j _ h=>by omega⟩ (To.mk [] rfl rfl List.nodup_nil trivial ?_) ?_
 ·simp(etaStruct := .none)only[push_cast,zab,seval,ha,hb]
 ·rintro k ⟨hk,hn⟩
  simp(etaStruct := .none)only[push_cast,zab,seval]
  refine zax (fun h => ?_) (fun h => ?_)
  ·have hlt:k<l.length:=by simpa using h
   simp(etaStruct := .none)only[push_cast,zab,seval,zce _ _ _ hlt,zd4]
   repeat with_reducible refine obA ?_
   refine zdl (hp _ (List.getElem_mem hlt)) (by simp only[zdb,ha,hb,cvL,cv];exact WkL.refl _) ?_
   simp(etaStruct := .none)only[push_cast,zab,seval]
   refine zax (fun h => ?_) (fun h => ?_)
   ·simp(etaStruct := .none)only[push_cast,zab,seval]
    exact zb0 rfl trivial (Wk.of (by rw[zej p l k hlt h hn];rfl))
   ·simp(etaStruct := .none)only[push_cast,zab,seval]
    refine⟨k+1,⟨by omega,fun j hj hjk => ?_⟩,by omega,To.mk [] rfl rfl List.nodup_nil trivial ?_⟩
    ·by_cases e:j=k
     ·subst e;exact h
     ·exact hn j hj (by omega)
    ·simp(etaStruct := .none)only[push_cast,zab,seval,ha,hb]
     simp(disch:=omega)only[zak,zbb,tdv,tmd]
  ·have hge:k=l.length:=by simp at h;omega
   subst hge
   simp(etaStruct := .none)only[push_cast,zab,seval]
   exact zb0 rfl trivial (Wk.of (by rw[zdh p l (fun j hj=>hn j hj hj)];rfl))
theorem yab (F:FuncId) (a b:List AV) (l:List Ord) (p:Ord→Bool) (hl:l.length≤9223372036854775807) (hp:∀n∈l,Spec Tryz.prog F (a ++ [zpf n]++b) [] (B (p n)) []) (ha:∀h,cvL [] h a=a) (hb:∀h,cvL [] h b=b) :
 Spec Tryz.prog 11 [.c (.sl 6 (l.map zd4)),.clo (.func F) a b] [] (B (l.any p)) []:=by
 refine spB Tryz.func11 9 [.tmp 4] Tryz.results11 ?_
 simp(etaStruct := .none)only[push_cast,zab,seval]
 refine zdl (yea F a b l p hl hp ha hb) (by simp only[ha,hb,cvL,cv];exact WkL.refl _) ?_
 simp(etaStruct := .none)only[push_cast,zab,seval]
 exact zb0 rfl trivial (Wk.of (by rw[zgi];rfl))
theorem ydv (F:FuncId) (a b:List AV) (l:List Sea) (p:Sea→Bool) (hl:l.length≤9223372036854775807) (hp:∀n∈l,Spec Tryz.prog F (a ++ [ygh n]++b) [] (B (p n)) []) (ha:∀h,cvL [] h a=a) (hb:∀h,cvL [] h b=b) :
 Spec Tryz.prog 152 [.c (.sl 3 (l.map zbu)),.clo (.func F) a b] [] (I .i64 (zh9 p l)) []:=by
 refine spB Tryz.func152 19 [.tmp 4] Tryz.results152 ?_
 simp(etaStruct := .none)only[push_cast,zab,seval]
 refine zaw (fun k:Nat=>⟨[(8,I .i64 k),(7,I .i64 l.length),(0,.c (.sl 3 (l.map zbu))),(1,.clo (.func F) a b)],[],0⟩) (fun k=>k≤l.length∧∀j (hj:j<l.length),j<k→p l[j]=false) (fun k=>l.length-k) 0 ⟨Nat.zero_le _,fun j _ h=>by omega⟩ (To.mk [] rfl rfl List.nodup_nil trivial ?_) ?_
 ·simp(etaStruct := .none)only[push_cast,zab,seval,ha,hb]
 ·rintro k ⟨hk,hn⟩
  simp(etaStruct := .none)only[push_cast,zab,seval]
  refine zax (fun h => ?_) (fun h => ?_)
  ·have hlt:k<l.length:=by simpa using h
   simp(etaStruct := .none)only[push_cast,zab,seval,zce _ _ _ hlt,zbu]
   repeat with_reducible refine obA ?_
   refine zdl (hp _ (List.getElem_mem hlt)) (by simp only[zdb,ha,hb,cvL,cv];exact WkL.refl _) ?_
   simp(etaStruct := .none)only[push_cast,zab,seval]
   refine zax (fun h => ?_) (fun h => ?_)
   ·simp(etaStruct := .none)only[push_cast,zab,seval]
    exact zb0 rfl trivial (Wk.of (by rw[zej p l k hlt h hn];rfl))
   ·simp(etaStruct := .none)only[push_cast,zab,seval]
    refine⟨k+1,⟨by omega,fun j hj hjk => ?_⟩,by omega,To.mk [] rfl rfl List.nodup_nil trivial ?_⟩
    ·by_cases e:j=k
     ·subst e;exact h
     ·exact hn j hj (by omega)
    ·simp(etaStruct := .none)only[push_cast,zab,seval,ha,hb]
     simp(disch:=omega)only[zak,zbb,tdv,tmd]
  ·have hge:k=l.length:=by simp at h;omega
   subst hge
   simp(etaStruct := .none)only[push_cast,zab,seval]
   exact zb0 rfl trivial (Wk.of (by rw[zdh p l (fun j hj=>hn j hj hj)];rfl))
theorem z9t (F:FuncId) (a b:List AV) (l:List Sea) (p:Sea→Bool) (hl:l.length≤9223372036854775807) (hp:∀n∈l,Spec Tryz.prog F (a ++ [ygh n]++b) [] (B (p n)) []) (ha:∀h,cvL [] h a=a) (hb:∀h,cvL [] h b=b) :
 Spec Tryz.prog 121 [.c (.sl 3 (l.map zbu)),.clo (.func F) a b] [] (B (l.any p)) []:=by
 refine spB Tryz.func121 9 [.tmp 4] Tryz.results121 ?_
 simp(etaStruct := .none)only[push_cast,zab,seval]
 refine zdl (ydv F a b l p hl hp ha hb) (by simp only[ha,hb,cvL,cv];exact WkL.refl _) ?_
 simp(etaStruct := .none)only[push_cast,zab,seval]
 exact zb0 rfl trivial (Wk.of (by rw[zgi];rfl))
theorem yd7 (o:Ord) (i:Int):Spec Tryz.prog 153 ([] ++ [zpf o] ++ [.fel 1 [[.v (.int .i64 i)]] 0 0]) [] (B (zjk i o)) []:=by
 refine spB Tryz.func153 13 [.tmp 3] Tryz.results153 ?_
 try refine xst ?_
 refine gcP (fun hcc=>zfc o) ?_
 try refine xst ?_
 (first|(refine zar rfl (Wk.of ?_);(try simp(etaStruct := .none)only[push_cast,zab,seval]);first|done|(simp[zjk, *];done)|(simp_all[zjk];done))|(refine zar rfl ?_;(try simp(etaStruct := .none)only[push_cast,zab,seval]);(try simp[zjk, *]);(try exact wkc)))
theorem zhx (s:Sea):(decide (s.late<0)||decide (1000000<s.late)||(s.gone&&(!decide (s.late=0)||decide (0<(s.waits.length:Int)))))=zmy s:=by
 unfold zmy zai
 rw[Bool.eq_iff_iff];simp
theorem z4c (s:Sea) (i:Int) (hl:zf0 s):Spec Tryz.prog 123 [ygh s,I .i64 i] [] (B (zp0 s i)) []:=by
 unfold zf0 at hl
 refine spB Tryz.func123 33 [.tmp 4] Tryz.results123 ?_
 try refine xz1 (zhx s) ?_
 refine cI (fun h1 => ?_) fun h1 => ?_
 ·try refine xz1 (zhx s) ?_
  (first|(refine zar rfl (Wk.of ?_);(try simp(etaStruct := .none)only[push_cast,zab,seval]);first|done|(simp[zp0, *];done)|(simp_all[zp0];done))|(refine zar rfl ?_;(try simp(etaStruct := .none)only[push_cast,zab,seval]);(try simp[zp0, *]);(try exact wkc)))
 ·try refine xz1 (zhx s) ?_
  refine zcl (yab _ [] [.fel 1 [[.v (.int .i64 i)]] 0 0] s.waits (zjk i) (by omega) (fun o _=>yd7 o i) (fun _=>rfl) (fun _=>rfl)) (WkL.refl _) rfl ?_
  try refine xz1 (zhx s) ?_
  (first|(refine zar rfl (Wk.of ?_);(try simp(etaStruct := .none)only[push_cast,zab,seval]);first|done|(simp[zp0, *];done)|(simp_all[zp0];done))|(refine zar rfl ?_;(try simp(etaStruct := .none)only[push_cast,zab,seval]);(try simp[zp0, *]);(try exact wkc)))
theorem ydw (s:Sea) (hl:zf0 s):Spec Tryz.prog 122 ([] ++ [ygh s] ++ []) [] (B (decide (50<s.waits.length))) []:=by
 unfold zf0 at hl
 refine spB Tryz.func122 7 [.tmp 2] Tryz.results122 ?_
 try refine xst ?_
 exact zb0 rfl trivial (Wk.of (congrArg B (by rw[Bool.eq_iff_iff];simp;omega)))
theorem zdx (l:List Sea) (hl:l.length≤9223372036854775807) (hs:∀s∈l,zf0 s):Spec Tryz.prog 73 [.c (.sl 3 (l.map zbu))] [] (I .i64 (za6 l)) []:=by
 refine spB Tryz.func73 27 [.tmp 2] Tryz.results73 ?_
 try refine xst ?_
 refine cI (fun h1 => ?_) fun h1 => ?_
 ·have e:za6 l=1:=by unfold za6;rw[if_pos (by omega)]
  try refine xst ?_
  (first|(refine zar rfl (Wk.of ?_);(try simp(etaStruct := .none)only[push_cast,zab,seval]);first|done|(simp[e, *];done)|(simp_all[e];done))|(refine zar rfl ?_;(try simp(etaStruct := .none)only[push_cast,zab,seval]);(try simp[e, *]);(try exact wkc)))
 ·try refine xst ?_
  refine caP (z9t _ [] [] l (fun s=>decide (50<s.waits.length)) hl (fun s hh=>ydw s (hs s hh)) (fun _=>rfl) (fun _=>rfl)) ?_
  try refine xst ?_
  refine cI (fun h2 => ?_) fun h2 => ?_
  ·have e:za6 l=2:=by unfold za6;rw[if_neg (by omega),if_pos h2]
   try refine xst ?_
   (first|(refine zar rfl (Wk.of ?_);(try simp(etaStruct := .none)only[push_cast,zab,seval]);first|done|(simp[e, *];done)|(simp_all[e];done))|(refine zar rfl ?_;(try simp(etaStruct := .none)only[push_cast,zab,seval]);(try simp[e, *]);(try exact wkc)))
  ·try refine xst ?_
   refine zaw (fun k:Nat=>⟨[(17,I .i64 k),(16,I .i64 l.length),(15,.c (.sl 3 (l.map zbu)))],[],0⟩) (fun k:Nat=>k≤l.length∧∀j,j<k→zp0 (l.getD j default) j=true) (fun k:Nat=>l.length-k) (0) (⟨Nat.zero_le _,fun j h=>by omega⟩) (To.mk [] rfl rfl List.nodup_nil trivial ?_) ?_
   ·simp(etaStruct := .none)only[push_cast,zab,seval]
   rintro k ⟨hk,hn⟩
   try refine xst ?_
   refine cI (fun h3 => ?_) fun h3 => ?_
   ·have hlt:k<l.length:=by omega
    try refine xz2 (gd hlt) zcf ?_
    refine caP (z4c (l.getD k default) k (hs _ (by rw[zac _ _ hlt];exact List.getElem_mem hlt))) ?_
    try refine xz2 (gd hlt) zcf ?_
    refine cI (fun h4 => ?_) fun h4 => ?_
    ·have e:za6 l=4:=by
      unfold za6
      rw[if_neg (by omega),if_neg (by rw[h2];simp),if_neg]
      rw[List.all_eq_true]
      intro hh
      have:=hh k (by simp;omega)
      rw[h4]at this;simp at this
     try refine xz2 (gd hlt) zcf ?_
     (first|(refine zar rfl (Wk.of ?_);(try simp(etaStruct := .none)only[push_cast,zab,seval]);first|done|(simp[e, *];done)|(simp_all[e];done))|(refine zar rfl ?_;(try simp(etaStruct := .none)only[push_cast,zab,seval]);(try simp[e, *]);(try exact wkc)))
    ·try refine xz2 (gd hlt) zcf ?_
     refine⟨k+1,⟨by omega,fun j hj=>by rcases Nat.lt_or_ge j k with h|h;exact hn j h;rw[show j=k by omega];exact h4⟩,by omega,To.mk [] rfl rfl List.nodup_nil trivial ?_⟩
     ·(try(refine xz2 (gd hlt) zcf ?_;try exact xtI))
   ·have e:za6 l=0:=by
     unfold za6
     rw[if_neg (by omega),if_neg (by rw[h2];simp),if_pos]
     rw[List.all_eq_true]
     intro i hi
     exact hn i (by simp at hi;omega)
    try refine xst ?_
    (first|(refine zar rfl (Wk.of ?_);(try simp(etaStruct := .none)only[push_cast,zab,seval]);first|done|(simp[e, *];done)|(simp_all[e];done))|(refine zar rfl ?_;(try simp(etaStruct := .none)only[push_cast,zab,seval]);(try simp[e, *]);(try exact wkc)))
theorem z7y (l:List Sea) (hl:l.length≤100000) (hs:∀s∈l,zf0 s):Spec Tryz.prog 76 [.c (.sl 3 (l.map zbu))] [] (.own 0) [.row 169 3 (l.map zbu)]:=by
 refine spB Tryz.func76 25 [.tmp 2] Tryz.results76 ?_
 iterate 2(try simp(etaStruct := .none)only[push_cast,zab,seval,List.length_take,List.length_map];try refine xsu ?_)
 refine zaw (fun k:Nat=>⟨[(11,I .i64 k),(10,I .i64 l.length),(9,.c (.sl 3 (l.map zbu))),(3,.own 0)],[(0,.row 169 3 ((l.take k).map zbu))],1⟩) (fun k:Nat=>k≤l.length) (fun k:Nat=>l.length-k) (0) (Nat.zero_le _) (To.mk [0] rfl rfl (by decide) ?_ ?_) ?_
 ·simp(etaStruct := .none)only[push_cast,zab,seval]
 ·simp(etaStruct := .none)only[push_cast,zab,seval]
 rintro k hk
 iterate 2(try simp(etaStruct := .none)only[push_cast,zab,seval,List.length_take,List.length_map];try refine xsu ?_)
 refine cI (fun h1 => ?_) fun h1 => ?_
 ·have hlt:k<l.length:=by omega
  iterate 2(try simp(etaStruct := .none)only[push_cast,zab,seval,List.length_take,List.length_map,zaa _ _ _ hlt,zbu];try refine xsu ?_)
  have ts:=zan l k hlt
  refine caP (zh3 (l.getD k default).waits (hs _ (by rw[zac _ _ hlt];exact List.getElem_mem hlt))) ?_
  iterate 2(try simp(etaStruct := .none)only[push_cast,zab,seval,List.length_take,List.length_map,zaa _ _ _ hlt,zbu];try refine xsu ?_)
  refine⟨k+1,by omega,by omega,To.mk [3] rfl rfl (by decide) ?_ ?_⟩
  ·(iterate 2((try simp(etaStruct := .none)only[push_cast,zab,seval,ts,List.map_append,zbu]);(try(refine xsu ?_;try exact xtI))))
  ·(iterate 2((try simp(etaStruct := .none)only[push_cast,zab,seval,List.length_take,List.length_map,zaa _ _ _ hlt,zbu]);(try(refine xsu ?_;try exact xtI))))
 ·obtain rfl:k=l.length:=by omega
  iterate 2(try simp(etaStruct := .none)only[push_cast,zab,seval,List.length_take,List.length_map];try refine xsu ?_)
  refine zcc [0] rfl rfl (by decide) ⟨?_,trivial⟩ trivial ?_
  ·simp(etaStruct := .none)only[push_cast,zab,seval,List.take_length]
  ·simp(etaStruct := .none)only[push_cast,zab,seval]
end Go.Proofs.YtmjbgbmegbkmhaaGreat
namespace Go.Proofs.YtmjbgbmegbkmhaaGreat
set_option linter.all false
open Go.RowKit
def tkS (most:Int):List Ord→List Sea→List Ord × List Sea
 | out,[]=>(out,[])
 | out,s::r =>
  if 0<s.waits.length∧(out.length:Int)<most then ((tkS most (out ++ [s.waits.getD 0 default]) r).1,⟨s.waits.drop 1,s.late,s.gone⟩::(tkS most (out ++ [s.waits.getD 0 default]) r).2)
  else ((tkS most out r).1,s::(tkS most out r).2)
def ycr (l:List Sea):Nat:=(l.map fun s=>s.waits.length).sum
theorem zsb (most:Int):∀(l:List Sea) (out:List Ord),(tkS most out l).1.length+ycr (tkS most out l).2=out.length+ycr l
 | [],out=>by simp[tkS,ycr]
 | s::r,out=>by
  unfold tkS
  split
  ·rename_i h
   have:=zsb most r (out ++ [s.waits.getD 0 default])
   simp only[ycr,List.map_cons,List.sum_cons,List.length_append,List.length_cons,List.length_nil,List.length_drop]at this ⊢
   omega
  ·have:=zsb most r out
   simp only[ycr,List.map_cons,List.sum_cons]at this ⊢
   omega
theorem zuc (most:Int):∀(l:List Sea) (out:List Ord),out.length≤(tkS most out l).1.length
 | [],out=>by simp[tkS]
 | s::r,out=>by
  unfold tkS
  split
  ·have:=zuc most r (out ++ [s.waits.getD 0 default]);simp only[List.length_append,List.length_cons,List.length_nil]at this ⊢;omega
  ·exact zuc most r out
theorem zzp (most:Int):∀(l:List Sea) (out:List Ord),(out.length:Int)≤max most 0→((tkS most out l).1.length:Int)≤max most 0
 | [],out,h=>by simpa[tkS]using h
 | s::r,out,h=>by
  unfold tkS
  split
  ·exact zzp most r _ (by simp;omega)
  ·exact zzp most r out h
theorem zzo (most:Int):∀(l:List Sea) (out:List Ord),(tkS most out l).2.length=l.length
 | [],out=>by simp[tkS]
 | s::r,out=>by unfold tkS;split<;>simp[zzo most r]
theorem zub (most:Int):∀(l:List Sea) (out:List Ord),(tkS most out l).1.length=out.length→tkS most out l=(out,l)
 | [],out,_=>by simp[tkS]
 | s::r,out,h=>by
  unfold tkS at h ⊢
  split at h
  ·have:=zuc most r (out ++ [s.waits.getD 0 default])
   simp only[List.length_append,List.length_cons,List.length_nil]at this h
   omega
  ·rename_i hc
   rw[if_neg hc,zub most r out h]
def zrv (most:Int) (x:List Ord × List Sea):Prop:=¬((x.1.length:Int)<most)∨∀s∈x.2,s.waits.length=0
theorem znx {most:Int} : ∀ {l:List Sea} {out:List Ord},zrv most (out,l)→tkS most out l=(out,l)
 | [],out,_=>by simp[tkS]
 | s::r,out,h=>by
  have hc:¬(0<s.waits.length∧(out.length:Int)<most):=by
   rcases h with h|h
   ·exact fun q=>h q.2
   ·have:=h s (by simp);omega
  unfold tkS
  rw[if_neg hc,znx (l:=r) (out:=out) (by rcases h with h|h;exact .inl h;exact .inr fun s hs=>h s (by simp[hs]))]
theorem zzt {most:Int} {x:List Ord × List Sea} (h:zrv most x):tkS most x.1 x.2=x:=by
 obtain⟨a,b⟩:=x
 exact znx h
def itS (most:Int):Nat→List Ord × List Sea→List Ord × List Sea
 | 0,x=>x
 | n+1,x=>itS most n (tkS most x.1 x.2)
theorem zka (most:Int):∀(n:Nat) (x:List Ord × List Sea),itS most (n+1) x=tkS most (itS most n x).1 (itS most n x).2
 | 0,x=>rfl
 | n+1,x=>by rw[itS,zka most n];rfl
theorem zs6 (most:Int) (x:List Ord × List Sea) (a:Nat) (h:tkS most (itS most a x).1 (itS most a x).2=itS most a x):∀d,itS most (a+d) x=itS most a x
 | 0=>rfl
 | d+1=>by rw[←Nat.add_assoc,zka,zs6 most x a h d,h]
theorem ye7 (most:Int) (x:List Ord × List Sea) (a b:Nat) (ha:tkS most (itS most a x).1 (itS most a x).2=itS most a x) (hb:tkS most (itS most b x).1 (itS most b x).2=itS most b x):itS most a x=itS most b x:=by
 rcases Nat.le_total a b with h|h
 ·rw[show b=a+(b-a)by omega,zs6 most x a ha]
 ·rw[show a=b+(a-b)by omega,zs6 most x b hb]
def zbp (s:Sea):Sea:=⟨s.waits,if 0<s.waits.length then 0 else if s.gone then s.late else min (s.late+1) 1000000,s.gone⟩
def zc0 (most:Int) (l:List Sea):List Ord × List Sea:=itS most 50 ([],l.map zbp)
theorem zzn (most:Int) (n:Nat):∀(l:List Sea) (out:List Ord),((tkS most out l).1.length:Int)<most→(∀s∈l,s.waits.length≤n+1)→∀s∈(tkS most out l).2,s.waits.length≤n
 | [],out,_,_,s,hs=>by simp[tkS]at hs
 | x::r,out,h,hl,s,hs=>by
  unfold tkS at h hs
  split at h
  ·rename_i hc
   rw[if_pos hc]at hs
   simp only at h hs
   rcases List.mem_cons.1 hs with rfl|hs
   ·have:=hl x (by simp);simp only[List.length_drop];omega
   ·exact zzn most n r _ h (fun s hs=>hl s (by simp[hs])) s hs
  ·rename_i hc
   rw[if_neg hc]at hs
   simp only at h hs
   rcases List.mem_cons.1 hs with rfl|hs
   ·have:=zuc most r out;omega
   ·exact zzn most n r _ h (fun s hs=>hl s (by simp[hs])) s hs
theorem z8c {most:Int} {x:List Ord × List Sea} (h:zrv most x):∀n,itS most n x=x
 | 0=>rfl
 | n+1=>by
  have:=znx (l:=x.2) (out:=x.1) h
  rw[itS,this];exact z8c h n
theorem zvt (most:Int):∀(n:Nat) (x:List Ord × List Sea),(∀s∈x.2,s.waits.length≤n)→zrv most (itS most n x)
 | 0,x,h => .inr fun s hs=>Nat.le_zero.1 (h s hs)
 | n+1,x,h=>by
  rw[itS]
  by_cases hc:((tkS most x.1 x.2).1.length:Int)<most
  ·exact zvt most n _ (zzn most n x.2 x.1 hc h)
  ·have hs:zrv most (tkS most x.1 x.2) := .inl hc
   rw[z8c hs];exact hs
theorem z62 {most:Int} {l:List Sea} {n:Nat} (hw:∀s∈l,s.waits.length≤50) (h:tkS most (itS most n ([],l.map zbp)).1 (itS most n ([],l.map zbp)).2=itS most n ([],l.map zbp)):zc0 most l=itS most n ([],l.map zbp):=by
 have hs:∀m,50≤m→tkS most (itS most m ([],l.map zbp)).1 (itS most m ([],l.map zbp)).2=itS most m ([],l.map zbp):=fun m hm=>by
  refine zzt (zvt most m _ fun s hs => ?_)
  obtain⟨t,ht,rfl⟩:=List.mem_map.1 hs
  exact Nat.le_trans (hw t ht) hm
 have key:∀m,50≤m→itS most m ([],l.map zbp)=itS most n ([],l.map zbp):=fun m hm=>ye7 most _ m n (hs m hm) h
 unfold zc0
 exact key 50 (Nat.le_refl _)
theorem zcb {l:List Sea} (h:za6 l=0):1≤l.length∧l.length≤8∧(∀s∈l,s.waits.length≤50)∧∀k,k<l.length→zp0 (l.getD k default) k=true:=by
 unfold za6 at h
 split at h
 ·simp at h
 ·split at h
  ·simp at h
  ·rename_i h1 h2
   split at h
   ·rename_i h3
    refine⟨by omega,by omega,fun s hs => ?_,fun k hk => ?_⟩
    ·simp only[List.any_eq_true,decide_eq_true_eq,not_exists,not_and]at h2
     have:=h2 s hs;omega
    ·exact List.all_eq_true.1 h3 k (by simpa using hk)
   ·simp at h
theorem zsj {s:Sea} {i:Int} (h:zp0 s i=true):(0≤s.late∧s.late≤1000000)∧(s.gone=true→s.late=0∧s.waits.length=0)∧∀o∈s.waits,o.by_=i∧zer o=0:=by
 unfold zp0 zmy at h
 simp only[Bool.and_eq_true,Bool.not_eq_true',Bool.or_eq_false_iff,Bool.not_eq_false',within_iff,List.any_eq_false]at h
 refine⟨h.1.1,fun hg => ?_,fun o ho => ?_⟩
 ·have:=h.1.2
  rw[hg]at this
  simp at this
  exact⟨this.1,by rw[this.2];rfl⟩
 ·have:=h.2 o ho
  unfold zjk at this
  simp at this
  exact this
theorem ybx {α : Type} [Inhabited α] (l:List α) (i:Nat) (h:i<l.length):l.drop i=l.getD i default::l.drop (i+1):=by rw[List.drop_eq_getElem_cons h,zac _ _ h]
theorem z4o {l:List Sea} {i:Nat} {x:Sea} (h:∀s∈l,zf0 s) (hx:zf0 x):∀s∈l.set i x,zf0 s:=fun s hs=>by
 rcases List.mem_or_eq_of_mem_set hs with h'|h'
 ·exact h s h'
 ·rw[h'];exact hx
end Go.Proofs.YtmjbgbmegbkmhaaGreat
namespace Go.Proofs.YtmjbgbmegbkmhaaGreat
set_option linter.all false
open Go.RowKit
set_option maxRecDepth 100000
set_option maxHeartbeats 1000000
def ze8 (w:Wld):Prop:=w.f.p.length≤9223372036854775807∧w.bases.length≤9223372036854775807∧w.stocks.length≤9223372036854775807∧w.mines.length≤9223372036854775807∧w.troops.length≤9223372036854775807
abbrev zkg (w:Wld):List AV := [I .i64 w.f.w,I .i64 w.f.h,.c (.sl 1 (w.f.p.map zad)),.c (.sl 2 (w.bases.map za2)),.c (.sl 1 (w.stocks.map zad)),.c (.sl 1 (w.mines.map zad)),.c (.sl 7 (w.troops.map zat)),I .i64 w.next,I .i64 w.now]
abbrev z7r (t:Trp):AV := .agg [I .i64 t.id,I .i64 t.owner,I .i64 t.kind,I .i64 t.c.x,I .i64 t.c.y,I .i64 t.life,I .i64 t.load]
abbrev yji (t:Trp):List AV := [I .i64 t.id,I .i64 t.owner,I .i64 t.kind,I .i64 t.c.x,I .i64 t.c.y,I .i64 t.life,I .i64 t.load]
theorem zr1 {w:Wld} (hf:zbk w.f=0) (hb:¬(8<w.bases.length∨100<w.troops.length)) (h1:zjg w=true) (h:zhp w=true):zam w=0:=by
 unfold zam;rw[if_neg (by simp[hf]),if_neg hb,h1,h];rfl
theorem z29 (l:List Cel) (v:Cel) (hl:l.length≤9223372036854775807):Spec Tryz.prog 143 [.c (.sl 2 (l.map za2)),zgw v] [] (I .i64 (zh9 (fun x=>decide (v=x)) l)) []:=by
 refine spB Tryz.func143 19 [.tmp 4] Tryz.results143 ?_
 try refine xst ?_
 refine zaw (fun k:Nat=>⟨[(8,I .i64 k),(7,I .i64 l.length),(3,.ptr 0 0 0),(0,.c (.sl 2 (l.map za2)))],[(0,.blk 46 [I .i64 v.x,I .i64 v.y])],1⟩) (fun k:Nat=>k≤l.length∧∀j (hj:j<l.length),j<k→decide (v=l[j])=false) (fun k:Nat=>l.length-k) (0) (⟨Nat.zero_le _,fun j _ h=>by omega⟩) (To.mk [0] rfl rfl (by decide) ?_ ?_) ?_
 ·simp(etaStruct := .none)only[push_cast,zab,seval]
 ·simp(etaStruct := .none)only[push_cast,zab,seval]
 rintro k ⟨hk,hn⟩
 try refine xst ?_
 refine zax (fun h1 => ?_) (fun h1 => ?_)
 ·(try replace h1:=xhh h1)
  have hlt:k<l.length:=by omega
  try refine xz3 (gd hlt) za4 zdq ?_
  (try(refine⟨by kernel_rfl,?_⟩))
  try refine xz3 (gd hlt) za4 zdq ?_
  refine cI (fun h2 => ?_) fun h2 => ?_
  ·try refine xz3 (gd hlt) za4 zdq ?_
   exact zb0 rfl trivial (Wk.of (by rw[zej (fun x=>decide (v=x)) l k hlt (by rw[←zac _ _ hlt];simpa using h2) hn];rfl))
  ·try refine xz3 (gd hlt) za4 zdq ?_
   refine⟨k+1,⟨by omega,fun j hj hjk=>by
 rcases Nat.lt_or_ge j k with h|h
 ·simpa using hn j hj h
 ·obtain rfl:j=k:=by omega
  rw[←zac _ _ hj];simpa using h2⟩,by omega,To.mk [0] rfl rfl (by decide) ?_ ?_⟩
   ·(try(refine xz3 (gd hlt) za4 zdq ?_;try exact xtI))
   ·(try(refine xz3 (gd hlt) za4 zdq ?_;try exact xtI))
 ·(try replace h1:=xhh h1)
  try refine xst ?_
  exact zb0 rfl trivial (Wk.of (by rw[zdh (fun x=>decide (v=x)) l (fun j hj=>hn j hj (by omega))];rfl))
theorem zrq (l:List Cel) (v:Cel) (hl:l.length≤9223372036854775807):Spec Tryz.prog 104 [.c (.sl 2 (l.map za2)),zgw v] [] (B (l.any (fun x=>decide (v=x)))) []:=by
 refine spB Tryz.func104 9 [.tmp 4] Tryz.results104 ?_
 iterate 2(try simp(etaStruct := .none)only[push_cast,zab,seval,zgi];try refine xsu ?_)
 refine caP (z29 l v hl) ?_
 iterate 2(try simp(etaStruct := .none)only[push_cast,zab,seval,zgi];try refine xsu ?_)
 exact xrz rfl
theorem zkr (f:Fld) (c:Cel) (h:zbk f=0) (hl:f.p.length≤9223372036854775807):Spec Tryz.prog 103 [zy6 f,zgw c] [] (B (zb2 f c)) []:=by
 refine spB Tryz.func103 19 [.tmp 4] Tryz.results103 ?_
 try refine xst ?_
 refine caP (zyv f c hl) ?_
 try refine xst ?_
 exact zb0 rfl trivial (Wk.of (congrArg B (by unfold atV zb2;rw[if_neg (by simp[h])];cases inF f c<;>simp)))
theorem zbl (n a b:Int):Spec Tryz.prog 105 [I .i64 n,I .i64 a,I .i64 b] [] (B (zai n a b)) []:=by
 refine spB Tryz.func105 15 [.tmp 6] Tryz.results105 ?_
 try refine xst ?_
 exact zb0 rfl trivial (Wk.of (congrArg B (by unfold zai;first|rfl|simp)))
def zfs (k:Int):Int:=if k=1∨k=2 then 0 else 1
theorem zg6 (k:Int):Spec Tryz.prog 106 [I .i64 k] [] (.tup [ykv (zbe k),I .i64 (zfs k)]) []:=by
 refine spB Tryz.func106 12 [.cell 2 222,.tmp 3] Tryz.results106 ?_
 try refine xst ?_
 refine cI (fun h1 => ?_) fun h1 => ?_
 ·try refine xst ?_
  (first|(refine zar rfl (Wk.of ?_);(try simp(etaStruct := .none)only[push_cast,zab,seval]);first|done|(simp[zbe,zfs, *];done)|(simp_all[zbe,zfs];done))|(refine zar rfl ?_;(try simp(etaStruct := .none)only[push_cast,zab,seval]);(try simp[zbe,zfs, *]);(try exact wkc)))
 ·try refine xst ?_
  refine cI (fun h2 => ?_) fun h2 => ?_
  ·try refine xst ?_
   (first|(refine zar rfl (Wk.of ?_);(try simp(etaStruct := .none)only[push_cast,zab,seval]);first|done|(simp[zbe,zfs, *];done)|(simp_all[zbe,zfs];done))|(refine zar rfl ?_;(try simp(etaStruct := .none)only[push_cast,zab,seval]);(try simp[zbe,zfs, *]);(try exact wkc)))
  ·try refine xst ?_
   (first|(refine zar rfl (Wk.of ?_);(try simp(etaStruct := .none)only[push_cast,zab,seval]);first|done|(simp[zbe,zfs, *];done)|(simp_all[zbe,zfs];done))|(refine zar rfl ?_;(try simp(etaStruct := .none)only[push_cast,zab,seval]);(try simp[zbe,zfs, *]);(try exact wkc)))
theorem z7b (w:Wld) (i:Nat) (hi:i<w.bases.length):((w.bases.take i).any fun x=>decide (w.bases.getD i default=x)) = !zfw (fun j => !decide (w.bases.getD j default=w.bases.getD i default)) i:=by
 rw[Bool.eq_iff_iff,Bool.not_eq_true',←Bool.not_eq_true,zbd,List.any_eq_true]
 constructor
 ·rintro⟨x,hx,h⟩ hh
  obtain⟨j,hj,rfl⟩:=List.getElem_of_mem hx
  rw[List.length_take]at hj
  have:=hh j (by omega)
  rw[List.getElem_take]at h
  rw[zac _ _ (by omega)]at this
  simp only[decide_eq_true_eq]at h
  simp only[Bool.not_eq_true',decide_eq_false_iff_not]at this
  exact this h.symm
 ·intro hh
  apply Classical.byContradiction
  intro hn
  apply hh
  intro j hj
  simp only[Bool.not_eq_true',decide_eq_false_iff_not]
  intro he
  apply hn
  refine⟨w.bases.getD j default,?_,decide_eq_true he.symm⟩
  rw[zac _ _ (by omega)]
  exact List.mem_take_iff_getElem.2 ⟨j,by omega,rfl⟩
def zdz (w:Wld):Bool:=decide (w.stocks.length=w.bases.length)&&zfw (zmq w) w.bases.length
def zh5 (w:Wld):Bool:=decide (w.mines.length=w.f.p.length)&&zfw (zmi w) w.mines.length
def zc4 (w:Wld):Bool:=zai w.next 1 1000000&&zai w.now 0 1000000&&zfw (zey w) w.troops.length
theorem ptm (w:Wld):(zdz w&&zh5 w&&zc4 w)=(zjg w&&zhp w):=by
 unfold zdz zh5 zc4 zjg zhp
 cases decide (w.stocks.length=w.bases.length)<;>cases decide (w.mines.length=w.f.p.length)<;>cases zai w.next 1 1000000<;>cases zai w.now 0 1000000<;>simp
theorem zkd {p:Nat→Bool} {n k:Nat} (h:k<n) (hp:p k=false):zfw p n=false:=by
 rw[←Bool.not_eq_true,zbd];intro hh
 have:=hh k h
 rw[hp]at this;simp at this
theorem zw7 (w:Wld) (hl:ze8 w) (hf:zbk w.f=0):Spec Tryz.prog 58 [zcx w] [] (B (zdz w)) []:=by
 obtain⟨l1,l2,l3,l4,l5⟩:=hl
 refine spB Tryz.func58 43 [.tmp 2] Tryz.results58 ?_
 try refine xst ?_
 refine cI (fun h1 => ?_) fun h1 => ?_
 ·have e:zdz w=false:=by unfold zdz;rw[decide_eq_false (by omega)];rfl
  try refine xst ?_
  (first|(refine zar rfl (Wk.of ?_);(try simp(etaStruct := .none)only[push_cast,zab,seval]);first|done|(simp[e, *];done)|(simp_all[e];done))|(refine zar rfl ?_;(try simp(etaStruct := .none)only[push_cast,zab,seval]);(try simp[e, *]);(try exact wkc)))
 ·have hls:w.stocks.length=w.bases.length:=by omega
  try refine xst ?_
  refine zaw (fun k:Nat=>⟨[(15,I .i64 k),(14,I .i64 w.bases.length),(13,.c (.sl 2 (w.bases.map za2))),(1,.ptr 0 0 0)],[(0,.blk 28 (zkg w))],1⟩) (fun k:Nat=>k≤w.bases.length∧zfw (zmq w) k=true) (fun k:Nat=>w.bases.length-k) (0) (⟨Nat.zero_le _,rfl⟩) (To.mk [0] rfl rfl (by decide) ?_ ?_) ?_
  ·simp(etaStruct := .none)only[push_cast,zab,seval]
  ·simp(etaStruct := .none)only[push_cast,zab,seval]
  rintro k ⟨hk,hn⟩
  try refine xst ?_
  refine cI (fun h2 => ?_) fun h2 => ?_
  ·have hlt:k<w.bases.length:=by omega
   have hlt2:k<w.stocks.length:=by omega
   have et:(w.bases.map za2).take k=(w.bases.take k).map za2:=by rw[List.map_take]
   have ba:=z7b w k hlt
   try refine xz5 (gd hlt) za4 (gd hlt2) zaq et ?_
   refine caP (zkr w.f (w.bases.getD k default) hf l1) ?_
   try refine xz5 (gd hlt) za4 (gd hlt2) zaq et ?_
   refine gcP (fun hcc=>zrq (w.bases.take k) (w.bases.getD k default) (by rw[List.length_take];omega)) ?_
   try refine xz5 (gd hlt) za4 (gd hlt2) zaq et ?_
   refine gcP (fun hcc=>zbl (w.stocks.getD k default) 0 1000000) ?_
   try refine xz5 (gd hlt) za4 (gd hlt2) zaq et ?_
   (try(refine⟨by kernel_rfl,?_⟩))
   try refine xz5 (gd hlt) za4 (gd hlt2) zaq et ?_
   refine cI (fun h3 => ?_) fun h3 => ?_
   ·have e0:zmq w k=false:=by
     unfold zmq
     rw[ba]at h3
     rcases h3 with (h|h)|h
     ·rw[h];rfl
     ·have h':zfw (fun j => !decide (w.bases.getD j default=w.bases.getD k default)) k=false:=by simpa using h
      rw[h'];simp
     ·rw[h];simp
    have e:zdz w=false:=by unfold zdz;rw[zkd hlt e0];simp
    try refine xz5 (gd hlt) za4 (gd hlt2) zaq et ?_
    (first|(refine zar rfl (Wk.of ?_);(try simp(etaStruct := .none)only[push_cast,zab,seval]);first|done|(simp[e, *];done)|(simp_all[e];done))|(refine zar rfl ?_;(try simp(etaStruct := .none)only[push_cast,zab,seval]);(try simp[e, *]);(try exact wkc)))
   ·have e0:zmq w k=true:=by
     unfold zmq
     rw[ba]at h3
     rw[h3.1.1,h3.2]
     simpa using h3.1.2
    try refine xz5 (gd hlt) za4 (gd hlt2) zaq et ?_
    refine⟨k+1,⟨by omega,by rw[zfw,hn,e0];rfl⟩,by omega,To.mk [0] rfl rfl (by decide) ?_ ?_⟩
    ·(try(refine xz5 (gd hlt) za4 (gd hlt2) zaq et ?_;try exact xtI))
    ·(try(refine xz5 (gd hlt) za4 (gd hlt2) zaq et ?_;try exact xtI))
  ·obtain rfl:k=w.bases.length:=by omega
   have e:zdz w=true:=by unfold zdz;rw[decide_eq_true hls,hn];rfl
   try refine xst ?_
   (first|(refine zar rfl (Wk.of ?_);(try simp(etaStruct := .none)only[push_cast,zab,seval]);first|done|(simp[e, *];done)|(simp_all[e];done))|(refine zar rfl ?_;(try simp(etaStruct := .none)only[push_cast,zab,seval]);(try simp[e, *]);(try exact wkc)))
theorem z38 (w:Wld) (hl:ze8 w):Spec Tryz.prog 59 [zcx w] [] (B (zh5 w)) []:=by
 obtain⟨l1,l2,l3,l4,l5⟩:=hl
 refine spB Tryz.func59 38 [.tmp 2] Tryz.results59 ?_
 try refine xst ?_
 refine cI (fun h1 => ?_) fun h1 => ?_
 ·have e:zh5 w=false:=by unfold zh5;rw[decide_eq_false (by omega)];rfl
  try refine xst ?_
  (first|(refine zar rfl (Wk.of ?_);(try simp(etaStruct := .none)only[push_cast,zab,seval]);first|done|(simp[e, *];done)|(simp_all[e];done))|(refine zar rfl ?_;(try simp(etaStruct := .none)only[push_cast,zab,seval]);(try simp[e, *]);(try exact wkc)))
 ·have hls:w.mines.length=w.f.p.length:=by omega
  try refine xst ?_
  refine zaw (fun k:Nat=>⟨[(16,I .i64 k),(15,I .i64 w.mines.length),(14,.c (.sl 1 (w.mines.map zad))),(1,.ptr 0 0 0)],[(0,.blk 28 (zkg w))],1⟩) (fun k:Nat=>k≤w.mines.length∧zfw (zmi w) k=true) (fun k:Nat=>w.mines.length-k) (0) (⟨Nat.zero_le _,rfl⟩) (To.mk [0] rfl rfl (by decide) ?_ ?_) ?_
  ·simp(etaStruct := .none)only[push_cast,zab,seval]
  ·simp(etaStruct := .none)only[push_cast,zab,seval]
  rintro k ⟨hk,hn⟩
  try refine xst ?_
  refine cI (fun h2 => ?_) fun h2 => ?_
  ·have hlt:k<w.mines.length:=by omega
   have hlt2:k<w.f.p.length:=by omega
   try refine xz3 (gd hlt) (gd hlt2) zaq ?_
   refine caP (zbl (w.mines.getD k default) 0 1000000) ?_
   try refine xz3 (gd hlt) (gd hlt2) zaq ?_
   refine cI (fun h3 => ?_) fun h3 => ?_
   ·have e0:zmi w k=false:=by
     unfold zmi
     rcases h3 with h|⟨h,h'⟩
     ·rw[h];rfl
     ·rw[decide_eq_false (by omega),decide_eq_false (by omega)];simp
    have e:zh5 w=false:=by unfold zh5;rw[zkd hlt e0];simp
    try refine xz3 (gd hlt) (gd hlt2) zaq ?_
    (first|(refine zar rfl (Wk.of ?_);(try simp(etaStruct := .none)only[push_cast,zab,seval]);first|done|(simp[e, *];done)|(simp_all[e];done))|(refine zar rfl ?_;(try simp(etaStruct := .none)only[push_cast,zab,seval]);(try simp[e, *]);(try exact wkc)))
   ·have e0:zmi w k=true:=by
     unfold zmi
     rw[h3.1]
     have:=within_iff.1 h3.1
     simp only[Bool.true_and,Bool.or_eq_true,decide_eq_true_eq]
     omega
    try refine xz3 (gd hlt) (gd hlt2) zaq ?_
    refine⟨k+1,⟨by omega,by rw[zfw,hn,e0];rfl⟩,by omega,To.mk [0] rfl rfl (by decide) ?_ ?_⟩
    ·(try(refine xz3 (gd hlt) (gd hlt2) zaq ?_;try exact xtI))
    ·(try(refine xz3 (gd hlt) (gd hlt2) zaq ?_;try exact xtI))
  ·obtain rfl:k=w.mines.length:=by omega
   have e:zh5 w=true:=by unfold zh5;rw[decide_eq_true hls,hn];rfl
   try refine xst ?_
   (first|(refine zar rfl (Wk.of ?_);(try simp(etaStruct := .none)only[push_cast,zab,seval]);first|done|(simp[e, *];done)|(simp_all[e];done))|(refine zar rfl ?_;(try simp(etaStruct := .none)only[push_cast,zab,seval]);(try simp[e, *]);(try exact wkc)))
def zhe (w:Wld) (i:Nat):Int:=if i=0 then 0 else (w.troops.getD (i-1) default).id
theorem ya7 (w:Wld):zhe w 0=0:=rfl
theorem ya6 (w:Wld) (k:Nat):zhe w (k+1)=(w.troops.getD k default).id:=by simp[zhe]
def zio (w:Wld) (k:Nat) (c:Cel):Bool := !zfw (fun j => !decide ((w.troops.getD j default).c=c)) k
theorem z9s (w:Wld) (c:Cel):zio w 0 c=false:=rfl
theorem zxe (w:Wld) (k:Nat) (c:Cel):zio w (k+1) c=(zio w k c||decide ((w.troops.getD k default).c=c)):=by
 unfold zio;rw[zfw];simp[Bool.not_and]
theorem zpb (p q:Nat→Bool):∀n,zfw (fun j=>p j&&q j) n=(zfw p n&&zfw q n)
 | 0=>rfl
 | n+1=>by
  rw[zfw,zfw,zfw,zpb p q n]
  cases zfw p n<;>cases zfw q n<;>cases p n<;>cases q n<;>rfl
theorem zvr {w:Wld} {k:Nat} (h:zfw (zey w) k=true) (t:Trp):0≤zhe w k∧(zhe w k<t.id↔1≤t.id∧zfw (fun j=>decide ((w.troops.getD j default).id<t.id)) k=true):=by
 have hh:=(zbd _ _).1 h
 cases k with
 | zero=>simp[zhe,zfw];omega
 | succ k =>
  have hk:=hh k (by omega)
  unfold zey ycq z7s at hk
  simp only[Bool.and_eq_true,zpb,within_iff]at hk
  have h2:=(zbd _ _).1 hk.2.2.1
  have el:zhe w (k+1)=(w.troops.getD k default).id:=by simp[zhe]
  rw[el,zbd]
  refine⟨by omega,fun h3=>⟨by omega,fun j hj => ?_⟩,fun h3 => ?_⟩
  ·rw[decide_eq_true_eq]
   rcases Nat.lt_or_ge j k with h4|h4
   ·have:=h2 j h4
    rw[decide_eq_true_eq]at this;omega
   ·rw[show j=k by omega];exact h3
  ·have:=h3.2 k (by omega)
   rwa [decide_eq_true_eq]at this
theorem zpn {w:Wld} {k:Nat} (h:zfw (zey w) k=true):zey w k=(zai (w.troops.getD k default).kind 1 2&&zai (w.troops.getD k default).id (zhe w k+1) (w.next-1)&&zai (w.troops.getD k default).owner 0 ((w.bases.length:Int)-1)&&zb2 w.f (w.troops.getD k default).c&&zai (w.troops.getD k default).life 1 (zbe (w.troops.getD k default).kind).life&&zai (w.troops.getD k default).load 0 (5*(2-(w.troops.getD k default).kind)) && !zio w k (w.troops.getD k default).c):=by
 obtain⟨_,h2⟩:=zvr h (w.troops.getD k default)
 unfold zey ycq z7s zio
 rw[zpb,Bool.not_not]
 have e:zai (w.troops.getD k default).id (zhe w k+1) (w.next-1)=(zai (w.troops.getD k default).id 1 (w.next-1)&&zfw (fun j=>decide ((w.troops.getD j default).id<(w.troops.getD k default).id)) k):=by
  rw[Bool.eq_iff_iff,Bool.and_eq_true,within_iff,within_iff]
  constructor
  ·rintro⟨a,b⟩
   have:=h2.1 (by omega)
   exact⟨⟨this.1,b⟩,this.2⟩
  ·rintro⟨⟨a,b⟩,c⟩
   have:=h2.2 ⟨a,c⟩
   exact⟨by omega,b⟩
 rw[e]
 cases zai (w.troops.getD k default).kind 1 2<;>cases zai (w.troops.getD k default).id 1 (w.next-1)<;>cases zai (w.troops.getD k default).owner 0 ((w.bases.length:Int)-1)<;>cases zb2 w.f (w.troops.getD k default).c<;>cases zai (w.troops.getD k default).life 1 (zbe (w.troops.getD k default).kind).life<;>cases zai (w.troops.getD k default).load 0 (5*(2-(w.troops.getD k default).kind))<;>simp
theorem ye5 {k:Int} (h:¬zfs k=0):zai k 1 2=false:=by
 rw[within_f];unfold zfs at h;split at h<;>omega
theorem ye4 {k:Int} (h:zfs k=0):zai k 1 2=true:=by
 rw[within_iff];unfold zfs at h;split at h<;>omega
theorem zq2 {k:Int} (h:zai k 1 2=true):5*(2-k)=if k=1 then 5 else 0:=by
 rw[within_iff]at h;split<;>omega
def zsa (c:Cel):List Int := [c.x,c.y]
theorem tkeyC_inj {a b:Cel} : zsa a=zsa b↔a=b:=by
 cases a;cases b;simp[zsa]
theorem zzi (w:Wld) (hl:ze8 w) (hf:zbk w.f=0) (hn1:zai w.next 1 1000000=true) (hn2:zai w.now 0 1000000=true):Spec Tryz.prog 60 [zcx w] [] (B (zc4 w)) []:=by
 obtain⟨l1,l2,l3,l4,l5⟩:=hl
 have hnx:=within_iff.1 hn1
 refine spB Tryz.func60 96 [.tmp 2] Tryz.results60 ?_
 iterate 2(try simp(etaStruct := .none)only[push_cast,zab,seval,beq_self_eq_true];try refine xsu ?_)
 refine zaw (fun x:Nat × List (List Int × Int)=>⟨[(14,I .i64 x.1),(13,I .i64 w.troops.length),(12,.c (.sl 7 (w.troops.map zat))),(4,.map 1),(3,I .i64 (zhe w x.1)),(1,.ptr 0 0 0)],[(0,.blk 28 (zkg w)),(1,.mp true 2 x.2)],2⟩) (fun x:Nat × List (List Int × Int)=>x.1≤w.troops.length∧zfw (zey w) x.1=true∧(∀c:Cel,zc2 (zsa c) x.2=if zio w x.1 c then 1 else 0)) (fun x:Nat × List (List Int × Int)=>w.troops.length-x.1) ((0,[])) (⟨Nat.zero_le _,rfl,fun c=>by rw[z9s];rfl⟩) (To.mk [0,1] rfl rfl (by decide) ?_ ?_) ?_
 ·simp(etaStruct := .none)only[push_cast,zab,seval]
 ·simp(etaStruct := .none)only[push_cast,zab,seval,ya7]
 rintro⟨k,es⟩ ⟨hk,hn,hm⟩
 simp only at hk hn hm
 iterate 2(try simp(etaStruct := .none)only[push_cast,zab,seval,beq_self_eq_true];try refine xsu ?_)
 refine zax (fun h1 => ?_) (fun h1 => ?_)
 ·(try replace h1:=xhh h1)
  have hlt:k<w.troops.length:=by omega
  have hla:=(zvr hn (w.troops.getD k default)).1
  have hla2:zhe w k≤1000000:=by
   unfold zhe
   split
   ·omega
   ·have:=(zbd _ _).1 hn (k-1) (by omega)
    unfold zey ycq at this
    simp only[Bool.and_eq_true,within_iff]at this
    omega
  iterate 2(try simp(etaStruct := .none)only[push_cast,zab,seval,beq_self_eq_true,zaa _ _ _ hlt,zat];try refine xsu ?_)
  refine caP (zg6 (w.troops.getD k default).kind) ?_
  iterate 2(try simp(etaStruct := .none)only[push_cast,zab,seval,beq_self_eq_true,zaa _ _ _ hlt,zat];try refine xsu ?_)
  refine znj (fun _u:Unit=>⟨[(14,I .i64 k),(13,I .i64 w.troops.length),(12,.c (.sl 7 (w.troops.map zat))),(9,I .i64 (if (w.troops.getD k default).kind=1 then 5 else 0)),(8,I .i64 (zfs (w.troops.getD k default).kind)),(7,.ptr 3 0 0),(6,.ptr 2 0 0),(4,.map 1),(3,I .i64 (zhe w k)),(1,.ptr 0 0 0)],[(0,.blk 28 (zkg w)),(1,.mp true 2 es),(2,.blk 108 (yji (w.troops.getD k default))),(3,.blk 222 [I .i64 (zbe (w.troops.getD k default).kind).life,I .i64 (zbe (w.troops.getD k default).kind).blow,I .i64 (zbe (w.troops.getD k default).kind).load,I .i64 (zbe (w.troops.getD k default).kind).price])],4⟩) (fun _u:Unit=>Tr) (fun h2 => ?_) (fun h2 => ?_) ?_
  ·(try replace h2:=xhh h2)
   iterate 2(try simp(etaStruct := .none)only[push_cast,zab,seval,beq_self_eq_true,zaa _ _ _ hlt,zat];try refine xsu ?_)
   refine⟨(),trI,To.mk [0,1,2,3] rfl rfl (by decide) ?_ ?_⟩
   ·(iterate 2((try simp(etaStruct := .none)only[push_cast,zab,seval,beq_self_eq_true,zaa _ _ _ hlt,zat]);(try(refine xsu ?_;try exact xtI))))
   ·(iterate 2((try simp(etaStruct := .none)only[push_cast,zab,seval,if_pos h2]);(try(refine xsu ?_;try exact xtI))))
  ·(try replace h2:=xhh h2)
   iterate 2(try simp(etaStruct := .none)only[push_cast,zab,seval,beq_self_eq_true,zaa _ _ _ hlt,zat];try refine xsu ?_)
   refine⟨(),trI,To.mk [0,1,2,3] rfl rfl (by decide) ?_ ?_⟩
   ·(iterate 2((try simp(etaStruct := .none)only[push_cast,zab,seval,beq_self_eq_true,zaa _ _ _ hlt,zat]);(try(refine xsu ?_;try exact xtI))))
   ·(iterate 2((try simp(etaStruct := .none)only[push_cast,zab,seval,if_neg h2]);(try(refine xsu ?_;try exact xtI))))
  ·rintro _ _
   iterate 2(try simp(etaStruct := .none)only[push_cast,zab,seval,beq_self_eq_true,zaa _ _ _ hlt,zat];try refine xsu ?_)
   refine gcP (fun hcc=>zbl (w.troops.getD k default).id (zhe w k+1) (w.next-1)) ?_
   iterate 2(try simp(etaStruct := .none)only[push_cast,zab,seval,beq_self_eq_true,zaa _ _ _ hlt,zat];try refine xsu ?_)
   refine gcP (fun hcc=>zbl (w.troops.getD k default).owner 0 ((w.bases.length:Int)-1)) ?_
   iterate 2(try simp(etaStruct := .none)only[push_cast,zab,seval,beq_self_eq_true,zaa _ _ _ hlt,zat];try refine xsu ?_)
   refine gcP (fun hcc=>zkr w.f (w.troops.getD k default).c hf l1) ?_
   iterate 2(try simp(etaStruct := .none)only[push_cast,zab,seval,beq_self_eq_true,zaa _ _ _ hlt,zat];try refine xsu ?_)
   refine gcP (fun hcc=>zbl (w.troops.getD k default).life 1 (zbe (w.troops.getD k default).kind).life) ?_
   iterate 2(try simp(etaStruct := .none)only[push_cast,zab,seval,beq_self_eq_true,zaa _ _ _ hlt,zat];try refine xsu ?_)
   refine gcP (fun hcc=>zbl (w.troops.getD k default).load 0 (if (w.troops.getD k default).kind=1 then 5 else 0)) ?_
   iterate 2(try simp(etaStruct := .none)only[push_cast,zab,seval,beq_self_eq_true,zaa _ _ _ hlt,zat];try refine xsu ?_)
   refine cI (fun h3 => ?_) fun h3 => ?_
   ·have e0:zey w k=false:=by
     rw[zpn hn]
     rcases h3 with ((((h|h)|h)|h)|h)|h
     ·rw[ye5 h];rfl
     ·rw[h];simp
     ·rw[h];simp
     ·rw[h];simp
     ·rw[h];simp
     ·cases hkk:zai (w.troops.getD k default).kind 1 2 with
      | false=>rfl
      | true=>rw[zq2 hkk,h];simp
    have e:zc4 w=false:=by unfold zc4;rw[zkd hlt e0];simp
    iterate 2(try simp(etaStruct := .none)only[push_cast,zab,seval,beq_self_eq_true,zaa _ _ _ hlt,zat];try refine xsu ?_)
    (first|(refine zar rfl (Wk.of ?_);(try simp(etaStruct := .none)only[push_cast,zab,seval]);first|done|(simp[e, *];done)|(simp_all[e];done))|(refine zar rfl ?_;(try simp(etaStruct := .none)only[push_cast,zab,seval]);(try simp[e, *]);(try exact wkc)))
   ·have hkk:=ye4 h3.1.1.1.1.1
    have e0:zey w k = !zio w k (w.troops.getD k default).c:=by
     rw[zpn hn,hkk,zq2 hkk,h3.1.1.1.1.2,h3.1.1.1.2,h3.1.1.2,h3.1.2,h3.2];rfl
    have hg:zc2 [(w.troops.getD k default).c.x,(w.troops.getD k default).c.y] es=if zio w k (w.troops.getD k default).c=true then 1 else 0:=hm (w.troops.getD k default).c
    have hg2:0≤zc2 [(w.troops.getD k default).c.x,(w.troops.getD k default).c.y] es∧zc2 [(w.troops.getD k default).c.x,(w.troops.getD k default).c.y] es≤1:=by rw[hg];split<;>omega
    obtain⟨es',hes'⟩:∃es',es'=zgh [(w.troops.getD k default).c.x,(w.troops.getD k default).c.y] (zc2 [(w.troops.getD k default).c.x,(w.troops.getD k default).c.y] es+1) es:=⟨_,rfl⟩
    have hp1:=zvk [(w.troops.getD k default).c.x,(w.troops.getD k default).c.y] (zc2 [(w.troops.getD k default).c.x,(w.troops.getD k default).c.y] es+1) es
    have hp2:=fun c=>zb5 [(w.troops.getD k default).c.x,(w.troops.getD k default).c.y] (zsa c) (zc2 [(w.troops.getD k default).c.x,(w.troops.getD k default).c.y] es+1) es
    rw[←hes']at hp1 hp2
    have hmp:=zlh [(w.troops.getD k default).c.x,(w.troops.getD k default).c.y] es
    iterate 2(try simp(etaStruct := .none)only[push_cast,zab,seval,beq_self_eq_true,zaa _ _ _ hlt,zat,zag,←hes',hp1];try refine xsu ?_)
    (try(refine⟨by kernel_rfl,?_⟩))
    iterate 2(try simp(etaStruct := .none)only[push_cast,zab,seval,beq_self_eq_true,zaa _ _ _ hlt,zat,zag,←hes',hp1];try refine xsu ?_)
    refine cI (fun h4 => ?_) fun h4 => ?_
    ·have hs:zio w k (w.troops.getD k default).c=true:=by
      cases hs:zio w k (w.troops.getD k default).c with
      | true=>rfl
      | false=>rw[hg,hs]at h4;simp at h4
     have e:zc4 w=false:=by unfold zc4;rw[zkd hlt (by rw[e0,hs];rfl)];simp
     iterate 2(try simp(etaStruct := .none)only[push_cast,zab,seval,beq_self_eq_true,zaa _ _ _ hlt,zat,zag,←hes',hp1];try refine xsu ?_)
     (first|(refine zar rfl (Wk.of ?_);(try simp(etaStruct := .none)only[push_cast,zab,seval]);first|done|(simp[e, *];done)|(simp_all[e];done))|(refine zar rfl ?_;(try simp(etaStruct := .none)only[push_cast,zab,seval]);(try simp[e, *]);(try exact wkc)))
    ·have hs:zio w k (w.troops.getD k default).c=false:=by
      cases hs:zio w k (w.troops.getD k default).c with
      | false=>rfl
      | true=>rw[hg,hs]at h4;simp at h4
     iterate 2(try simp(etaStruct := .none)only[push_cast,zab,seval,beq_self_eq_true,zaa _ _ _ hlt,zat,zag,←hes',hp1];try refine xsu ?_)
     refine⟨(k+1,es'),⟨by simp only;omega,by simp only;rw[zfw,hn,e0,hs];rfl,fun c=>by
 simp only
 rw[hp2 c,zxe,hg,hs]
 by_cases hc:(w.troops.getD k default).c=c
 ·rw[if_pos (show zsa c = [(w.troops.getD k default).c.x,(w.troops.getD k default).c.y]from tkeyC_inj.2 hc.symm),decide_eq_true hc];simp
 ·rw [if_neg (show ¬ zsa c = [(w.troops.getD k default).c.x, (w.troops.getD k default).c.y] from fun h => hc (tkeyC_inj.1 h).symm), decide_eq_false hc, hm c, Bool.or_false]⟩, by simp only; omega, To.mk [0, 1] rfl rfl (by decide) ?_ ?_⟩
     ·(iterate 2((try simp(etaStruct := .none)only[push_cast,zab,seval,beq_self_eq_true,zaa _ _ _ hlt,zat,zag,←hes',hp1]);(try(refine xsu ?_;try exact xtI))))
     ·(try(refine xz1 ya6 ?_;try exact xtI))
 ·(try replace h1:=xhh h1)
  obtain rfl:k=w.troops.length:=by omega
  have e:zc4 w=true:=by unfold zc4;rw[hn1,hn2,hn];rfl
  iterate 2(try simp(etaStruct := .none)only[push_cast,zab,seval,beq_self_eq_true];try refine xsu ?_)
  refine caP (zbl w.next 1 1000000) ?_
  iterate 2(try simp(etaStruct := .none)only[push_cast,zab,seval,beq_self_eq_true];try refine xsu ?_)
  refine gcP (fun hcc=>zbl w.now 0 1000000) ?_
  iterate 2(try simp(etaStruct := .none)only[push_cast,zab,seval,beq_self_eq_true];try refine xsu ?_)
  exact zb0 rfl trivial (Wk.of (by rw[e,hn1,hn2];rfl))
theorem zr7 (w:Wld) (hl:ze8 w) (hf:zbk w.f=0) (hb:(zai w.next 1 1000000&&zai w.now 0 1000000)=false):Spec Tryz.prog 60 [zcx w] [] (B (zc4 w)) []:=by
 obtain⟨l1,l2,l3,l4,l5⟩:=hl
 have e:zc4 w=false:=by unfold zc4;rw[hb];rfl
 refine spB Tryz.func60 96 [.tmp 2] Tryz.results60 ?_
 iterate 2(try simp(etaStruct := .none)only[push_cast,zab,seval,beq_self_eq_true];try refine xsu ?_)
 refine zaw (fun x:Nat × Int × List (List Int × Int)=>⟨[(14,I .i64 x.1),(13,I .i64 w.troops.length),(12,.c (.sl 7 (w.troops.map zat))),(4,.map 1),(3,I .i64 x.2.1),(1,.ptr 0 0 0)],[(0,.blk 28 (zkg w)),(1,.mp true 2 x.2.2)],2⟩) (fun x:Nat × Int × List (List Int × Int)=>x.1≤w.troops.length) (fun x:Nat × Int × List (List Int × Int)=>w.troops.length-x.1) ((0,0,[])) (Nat.zero_le _) (To.mk [0,1] rfl rfl (by decide) ?_ ?_) ?_
 ·simp(etaStruct := .none)only[push_cast,zab,seval]
 ·simp(etaStruct := .none)only[push_cast,zab,seval]
 rintro⟨k,last,es⟩ hk
 simp only at hk
 iterate 2(try simp(etaStruct := .none)only[push_cast,zab,seval,beq_self_eq_true];try refine xsu ?_)
 refine cI (fun h1 => ?_) fun h1 => ?_
 ·have hlt:k<w.troops.length:=by omega
  iterate 2(try simp(etaStruct := .none)only[push_cast,zab,seval,beq_self_eq_true,zaa _ _ _ hlt,zat];try refine xsu ?_)
  refine caP (zg6 (w.troops.getD k default).kind) ?_
  iterate 2(try simp(etaStruct := .none)only[push_cast,zab,seval,beq_self_eq_true,zaa _ _ _ hlt,zat];try refine xsu ?_)
  refine znj (fun m:Int=>⟨[(14,I .i64 k),(13,I .i64 w.troops.length),(12,.c (.sl 7 (w.troops.map zat))),(9,I .i64 m),(8,I .i64 (zfs (w.troops.getD k default).kind)),(7,.ptr 3 0 0),(6,.ptr 2 0 0),(4,.map 1),(3,I .i64 last),(1,.ptr 0 0 0)],[(0,.blk 28 (zkg w)),(1,.mp true 2 es),(2,.blk 108 (yji (w.troops.getD k default))),(3,.blk 222 [I .i64 (zbe (w.troops.getD k default).kind).life,I .i64 (zbe (w.troops.getD k default).kind).blow,I .i64 (zbe (w.troops.getD k default).kind).load,I .i64 (zbe (w.troops.getD k default).kind).price])],4⟩) (fun m:Int=>Tr) (fun h2 => ?_) (fun h2 => ?_) ?_
  ·(try replace h2:=xhh h2)
   iterate 2(try simp(etaStruct := .none)only[push_cast,zab,seval,beq_self_eq_true,zaa _ _ _ hlt,zat];try refine xsu ?_)
   refine⟨5,trI,To.mk [0,1,2,3] rfl rfl (by decide) ?_ ?_⟩
   ·(iterate 2((try simp(etaStruct := .none)only[push_cast,zab,seval,beq_self_eq_true,zaa _ _ _ hlt,zat]);(try(refine xsu ?_;try exact xtI))))
   ·(iterate 2((try simp(etaStruct := .none)only[push_cast,zab,seval,beq_self_eq_true,zaa _ _ _ hlt,zat]);(try(refine xsu ?_;try exact xtI))))
  ·(try replace h2:=xhh h2)
   iterate 2(try simp(etaStruct := .none)only[push_cast,zab,seval,beq_self_eq_true,zaa _ _ _ hlt,zat];try refine xsu ?_)
   refine⟨0,trI,To.mk [0,1,2,3] rfl rfl (by decide) ?_ ?_⟩
   ·(iterate 2((try simp(etaStruct := .none)only[push_cast,zab,seval,beq_self_eq_true,zaa _ _ _ hlt,zat]);(try(refine xsu ?_;try exact xtI))))
   ·(iterate 2((try simp(etaStruct := .none)only[push_cast,zab,seval,beq_self_eq_true,zaa _ _ _ hlt,zat]);(try(refine xsu ?_;try exact xtI))))
  ·rintro m _
   iterate 2(try simp(etaStruct := .none)only[push_cast,zab,seval,beq_self_eq_true,zaa _ _ _ hlt,zat];try refine xsu ?_)
   refine gcP (fun hcc=>zbl (w.troops.getD k default).id _ _) ?_
   iterate 2(try simp(etaStruct := .none)only[push_cast,zab,seval,beq_self_eq_true,zaa _ _ _ hlt,zat];try refine xsu ?_)
   refine gcP (fun hcc=>zbl (w.troops.getD k default).owner 0 ((w.bases.length:Int)-1)) ?_
   iterate 2(try simp(etaStruct := .none)only[push_cast,zab,seval,beq_self_eq_true,zaa _ _ _ hlt,zat];try refine xsu ?_)
   refine gcP (fun hcc=>zkr w.f (w.troops.getD k default).c hf l1) ?_
   iterate 2(try simp(etaStruct := .none)only[push_cast,zab,seval,beq_self_eq_true,zaa _ _ _ hlt,zat];try refine xsu ?_)
   refine gcP (fun hcc=>zbl (w.troops.getD k default).life 1 (zbe (w.troops.getD k default).kind).life) ?_
   iterate 2(try simp(etaStruct := .none)only[push_cast,zab,seval,beq_self_eq_true,zaa _ _ _ hlt,zat];try refine xsu ?_)
   refine gcP (fun hcc=>zbl (w.troops.getD k default).load 0 m) ?_
   iterate 2(try simp(etaStruct := .none)only[push_cast,zab,seval,beq_self_eq_true,zaa _ _ _ hlt,zat];try refine xsu ?_)
   refine cI (fun h3 => ?_) fun h3 => ?_
   ·iterate 2(try simp(etaStruct := .none)only[push_cast,zab,seval,beq_self_eq_true,zaa _ _ _ hlt,zat];try refine xsu ?_)
    (first|(refine zar rfl (Wk.of ?_);(try simp(etaStruct := .none)only[push_cast,zab,seval]);first|done|(simp[e, *];done)|(simp_all[e];done))|(refine zar rfl ?_;(try simp(etaStruct := .none)only[push_cast,zab,seval]);(try simp[e, *]);(try exact wkc)))
   ·have hmp:=zlh [(w.troops.getD k default).c.x,(w.troops.getD k default).c.y] es
    iterate 2(try simp(etaStruct := .none)only[push_cast,zab,seval,beq_self_eq_true,zaa _ _ _ hlt,zat,zag];try refine xsu ?_)
    (try(refine⟨by kernel_rfl,?_⟩))
    iterate 2(try simp(etaStruct := .none)only[push_cast,zab,seval,beq_self_eq_true,zaa _ _ _ hlt,zat,zag];try refine xsu ?_)
    refine cI (fun h4 => ?_) fun h4 => ?_
    ·iterate 2(try simp(etaStruct := .none)only[push_cast,zab,seval,beq_self_eq_true,zaa _ _ _ hlt,zat,zag];try refine xsu ?_)
     (first|(refine zar rfl (Wk.of ?_);(try simp(etaStruct := .none)only[push_cast,zab,seval]);first|done|(simp[e, *];done)|(simp_all[e];done))|(refine zar rfl ?_;(try simp(etaStruct := .none)only[push_cast,zab,seval]);(try simp[e, *]);(try exact wkc)))
    ·iterate 2(try simp(etaStruct := .none)only[push_cast,zab,seval,beq_self_eq_true,zaa _ _ _ hlt,zat,zag];try refine xsu ?_)
     refine⟨(k+1,(w.troops.getD k default).id,zgh [(w.troops.getD k default).c.x,(w.troops.getD k default).c.y] (IntKind.i64.wrap (zc2 [(w.troops.getD k default).c.x,(w.troops.getD k default).c.y] es+1)) es),by simp only;omega,by simp only;omega,To.mk [0,1] rfl rfl (by decide) ?_ ?_⟩
     ·(iterate 2((try simp(etaStruct := .none)only[push_cast,zab,seval,beq_self_eq_true,zaa _ _ _ hlt,zat,zag]);(try(refine xsu ?_;try exact xtI))))
     ·(iterate 2((try simp(etaStruct := .none)only[push_cast,zab,seval,beq_self_eq_true,zaa _ _ _ hlt,zat,zag]);(try(refine xsu ?_;try exact xtI))))
 ·iterate 2(try simp(etaStruct := .none)only[push_cast,zab,seval,beq_self_eq_true];try refine xsu ?_)
  refine caP (zbl w.next 1 1000000) ?_
  iterate 2(try simp(etaStruct := .none)only[push_cast,zab,seval,beq_self_eq_true];try refine xsu ?_)
  refine gcP (fun hcc=>zbl w.now 0 1000000) ?_
  iterate 2(try simp(etaStruct := .none)only[push_cast,zab,seval,beq_self_eq_true];try refine xsu ?_)
  exact zb0 rfl trivial (Wk.of (by rw[e,hb];rfl))
theorem zr8 (w:Wld) (hl:ze8 w) (hf:zbk w.f=0):Spec Tryz.prog 60 [zcx w] [] (B (zc4 w)) []:=by
 cases hb:(zai w.next 1 1000000&&zai w.now 0 1000000)with
 | false=>exact zr7 w hl hf hb
 | true=>rw[Bool.and_eq_true]at hb;exact zzi w hl hf hb.1 hb.2
theorem zdw (w:Wld) (hl:ze8 w):Spec Tryz.prog 17 [zcx w] [] (I .i64 (zam w)) []:=by
 refine spB Tryz.func17 33 [.tmp 2] Tryz.results17 ?_
 try refine xst ?_
 refine caP (zwe w.f hl.1) ?_
 try refine xst ?_
 refine cI (fun h1 => ?_) fun h1 => ?_
 ·have e:zam w=zbk w.f:=by unfold zam;rw[if_pos (by simpa using h1)]
  try refine xst ?_
  (first|(refine zar rfl (Wk.of ?_);(try simp(etaStruct := .none)only[push_cast,zab,seval]);first|done|(simp[e, *];done)|(simp_all[e];done))|(refine zar rfl ?_;(try simp(etaStruct := .none)only[push_cast,zab,seval]);(try simp[e, *]);(try exact wkc)))
 ·have hf:zbk w.f=0:=by simpa using h1
  try refine xst ?_
  refine cI (fun h2 => ?_) fun h2 => ?_
  ·have e:zam w=2:=by unfold zam;rw[if_neg (by simp[hf]),if_pos (by omega)]
   try refine xst ?_
   (first|(refine zar rfl (Wk.of ?_);(try simp(etaStruct := .none)only[push_cast,zab,seval]);first|done|(simp[e, *];done)|(simp_all[e];done))|(refine zar rfl ?_;(try simp(etaStruct := .none)only[push_cast,zab,seval]);(try simp[e, *]);(try exact wkc)))
  ·have hb:¬(8<w.bases.length∨100<w.troops.length):=by omega
   try refine xst ?_
   refine caP (zw7 w hl hf) ?_
   try refine xst ?_
   refine gcP (fun hcc=>z38 w hl) ?_
   try refine xst ?_
   refine gcP (fun hcc=>zr8 w hl hf) ?_
   try refine xst ?_
   refine cI (fun h3 => ?_) fun h3 => ?_
   ·have e:zam w=4:=by
     unfold zam;rw[if_neg (by simp[hf]),if_neg hb,if_neg]
     rw[←ptm]
     rcases h3 with (h|h)|h<;>rw[h]<;>simp
    try refine xst ?_
    (first|(refine zar rfl (Wk.of ?_);(try simp(etaStruct := .none)only[push_cast,zab,seval]);first|done|(simp[e, *];done)|(simp_all[e];done))|(refine zar rfl ?_;(try simp(etaStruct := .none)only[push_cast,zab,seval]);(try simp[e, *]);(try exact wkc)))
   ·have e:zam w=0:=by
     unfold zam;rw[if_neg (by simp[hf]),if_neg hb,if_pos]
     rw[←ptm,h3.1.1,h3.1.2,h3.2];rfl
    try refine xst ?_
    (first|(refine zar rfl (Wk.of ?_);(try simp(etaStruct := .none)only[push_cast,zab,seval]);first|done|(simp[e, *];done)|(simp_all[e];done))|(refine zar rfl ?_;(try simp(etaStruct := .none)only[push_cast,zab,seval]);(try simp[e, *]);(try exact wkc)))
theorem zdd {w:Wld} (h:zam w=0):zbk w.f=0∧w.bases.length≤8∧w.troops.length≤100∧zjg w=true∧zhp w=true:=by
 unfold zam at h
 split at h
 ·rename_i h1;exact absurd h h1
 ·rename_i h1
  split at h
  ·simp at h
  ·rename_i h2
   split at h
   ·rename_i h3
    rw[Bool.and_eq_true]at h3
    exact⟨Decidable.not_not.1 h1,by omega,by omega,h3.1,h3.2⟩
   ·simp at h
theorem zkf {w:Wld} (h:zjg w=true):w.stocks.length=w.bases.length∧w.mines.length=w.f.p.length∧(1≤w.next∧w.next≤1000000)∧0≤w.now∧w.now≤1000000:=by
 unfold zjg at h
 simp only[Bool.and_eq_true,decide_eq_true_eq,within_iff]at h
 exact⟨h.1.1.1,h.1.1.2,h.1.2,h.2⟩
structure TrpOk (w : Wld) (t : Trp) : Prop where
 kind:t.kind=1∨t.kind=2
 id:1≤t.id∧t.id≤w.next-1
 owner:0≤t.owner∧t.owner≤(w.bases.length:Int)-1
 at_:zb2 w.f t.c=true
 x:0≤t.c.x∧t.c.x<w.f.w
 y:0≤t.c.y∧t.c.y<w.f.h
 life:1≤t.life∧t.life≤(zbe t.kind).life
 load:0≤t.load∧t.load≤5*(2-t.kind)
theorem ground_iff {f:Fld} {c:Cel} : zb2 f c=true↔inF f c=true∧zah f c≠1:=by unfold zb2;simp
theorem ze9 {w:Wld} (h:zam w=0) {k:Nat} (hk:k<w.troops.length):TrpOk w (w.troops.getD k default)∧z7s w k=true:=by
 obtain⟨_,_,_,_,h5⟩:=zdd h
 unfold zhp at h5
 simp only[Bool.and_eq_true]at h5
 have:=(zbd _ _).1 h5.2 k hk
 unfold zey ycq at this
 simp only[Bool.and_eq_true,within_iff]at this
 obtain⟨a,⟨⟨⟨⟨b,c⟩,d⟩,e⟩,f⟩,g⟩:=this
 have hi:=inF_iff.1 (ground_iff.1 d).1
 exact⟨⟨by omega,b,c,d,hi.1,hi.2,e,f⟩,g⟩
theorem zpm {w:Wld} (h:zam w=0) {t:Trp} (ht:t∈w.troops):TrpOk w t:=by
 obtain⟨i,hi,rfl⟩:=List.getElem_of_mem ht
 have:=(ze9 h hi).1
 rwa [zac _ _ hi]at this
theorem zt9 (F:FuncId) (a b:List AV) (l:List Trp) (p:Trp→Bool) (hl:l.length≤9223372036854775807) (hp:∀n∈l,Spec Tryz.prog F (a ++ [z7r n]++b) [] (B (p n)) []) (ha:∀h,cvL [] h a=a) (hb:∀h,cvL [] h b=b) :
 Spec Tryz.prog 86 [.c (.sl 7 (l.map zat)),.clo (.func F) a b] [] (I .i64 (zh9 p l)) []:=by
 refine spB Tryz.func86 19 [.tmp 4] Tryz.results86 ?_
 simp(etaStruct := .none)only[push_cast,zab,seval]
 refine zaw (fun k:Nat=>⟨[(8,I .i64 k),(7,I .i64 l.length),(0,.c (.sl 7 (l.map zat))),(1,.clo (.func F) a b)],[],0⟩) (fun k=>k≤l.length∧∀j (hj:j<l.length),j<k→p l[j]=false) (fun k=>l.length-k) 0 ⟨Nat.zero_le _,fun j _ h=>by omega⟩ (To.mk [] rfl rfl List.nodup_nil trivial ?_) ?_
 ·simp(etaStruct := .none)only[push_cast,zab,seval,ha,hb]
 ·rintro k ⟨hk,hn⟩
  simp(etaStruct := .none)only[push_cast,zab,seval]
  refine zax (fun h => ?_) (fun h => ?_)
  ·have hlt:k<l.length:=by simpa using h
   simp(etaStruct := .none)only[push_cast,zab,seval,zce _ _ _ hlt,zat]
   repeat with_reducible refine obA ?_
   refine zdl (hp _ (List.getElem_mem hlt)) (by simp only[zdb,ha,hb,cvL,cv];exact WkL.refl _) ?_
   simp(etaStruct := .none)only[push_cast,zab,seval]
   refine zax (fun h => ?_) (fun h => ?_)
   ·simp(etaStruct := .none)only[push_cast,zab,seval]
    exact zb0 rfl trivial (Wk.of (by rw[zej p l k hlt h hn];rfl))
   ·simp(etaStruct := .none)only[push_cast,zab,seval]
    refine⟨k+1,⟨by omega,fun j hj hjk => ?_⟩,by omega,To.mk [] rfl rfl List.nodup_nil trivial ?_⟩
    ·by_cases e:j=k
     ·subst e;exact h
     ·exact hn j hj (by omega)
    ·simp(etaStruct := .none)only[push_cast,zab,seval,ha,hb]
     simp(disch:=omega)only[zak,zbb,tdv,tmd]
  ·have hge:k=l.length:=by simp at h;omega
   subst hge
   simp(etaStruct := .none)only[push_cast,zab,seval]
   exact zb0 rfl trivial (Wk.of (by rw[zdh p l (fun j hj=>hn j hj hj)];rfl))
theorem ztk {α : Type} [Inhabited α] (p : α → Bool) (l:List α) (k:Nat) (h:k<l.length):(l.take (k+1)).filter p=if p (l.getD k default)then (l.take k).filter p ++ [l.getD k default]else (l.take k).filter p:=by
 rw[zan l k h,List.filter_append,List.filter_cons,List.filter_nil]
 split<;>simp
structure Blw where
 by_:Int
 at_:Int
 deriving DecidableEq, Inhabited
def zex (b:Blw):List PV := [pI b.by_,pI b.at_]
theorem yjo (b:Blw):zex b = [pI b.by_,pI b.at_]:=rfl
structure Gop where
 id:Int
 to:Cel
 deriving DecidableEq, Inhabited
def zeu (g:Gop):List PV := [pI g.id,pI g.to.x,pI g.to.y]
theorem znc (g:Gop):zeu g = [pI g.id,pI g.to.x,pI g.to.y]:=rfl
structure Ded where
 kind:Int
 who:Int
 c:Cel
 what:Int
 deriving DecidableEq, Inhabited
def zmb (d:Ded):List PV := [pI d.kind,pI d.who,pI d.c.x,pI d.c.y,pI d.what]
theorem yfp (d:Ded):zmb d = [pI d.kind,pI d.who,pI d.c.x,pI d.c.y,pI d.what]:=rfl
def zda (w:Wld) (i:Int):Option Trp:=w.troops.find? fun t=>decide (t.id=i)
def z7t:Trp:=⟨0,0,0,⟨0,0⟩,0,0⟩
theorem z6l {α : Type} [Inhabited α] (p : α → Bool) (l:List α) (k:Nat) (h:k<l.length) (hp:p (l.getD k default)=true) (hn:∀j,j<k→p (l.getD j default)=false):l.find? p=some (l.getD k default):=by
 induction l generalizing k with
 | nil=>simp at h
 | cons a r ih =>
  cases k with
  | zero=>simp only[List.getD_cons_zero]at hp ⊢;rw[List.find?_cons,hp]
  | succ k =>
   have h0:=hn 0 (by omega)
   simp only[List.getD_cons_zero]at h0
   rw[List.find?_cons,h0]
   simp only[List.getD_cons_succ]at hp ⊢
   exact ih k (by simpa using h) hp (fun j hj=>by have:=hn (j+1) (by omega);simpa using this)
theorem z2t {α : Type} [Inhabited α] (p : α → Bool) (l:List α) (hn:∀j,j<l.length→p (l.getD j default)=false):l.find? p=none:=by
 rw[List.find?_eq_none]
 intro x hx
 obtain⟨i,hi,rfl⟩:=List.getElem_of_mem hx
 have:=hn i hi
 rw[zac _ _ hi]at this
 simp[this]
def zdn (o:Ord) (w:Wld):Bool:=if o.kind=5 then decide (o.by_<w.bases.length)else match zda w o.who with|some t=>decide (t.owner=o.by_)|none=>false
def z3w (o:Ord):List Blw:=if o.kind=1 then [⟨o.who,o.what⟩]else []
def z3v (o:Ord):List Gop:=if o.kind=2 then [⟨o.who,o.c⟩]else []
def z6v (o:Ord):Ded:=⟨o.kind-2,if o.kind=5 then o.by_ else o.who,o.c,o.what⟩
def zw1 (o:Ord):List Ded:=if 2<o.kind then [z6v o]else []
def zcq (l:List Ord) (w:Wld):List Blw:=(l.filter fun o=>zdn o w).flatMap z3w
def ze5 (l:List Ord) (w:Wld):List Gop:=(l.filter fun o=>zdn o w).flatMap z3v
def zcg (l:List Ord) (w:Wld):List Ded:=(l.filter fun o=>zdn o w).flatMap zw1
theorem zl1 {α : Type} (p:Ord→Bool) (f:Ord→List α) (l:List Ord) (k:Nat) (h:k<l.length):((l.take (k+1)).filter p).flatMap f=((l.take k).filter p).flatMap f++(if p (l.getD k default)then f (l.getD k default)else []):=by
 rw[ztk p l k h]
 split<;>simp
theorem zfk {α : Type} (p:Ord→Bool) (f:Ord→List α) (hf:∀o,(f o).length≤1):∀l:List Ord,((l.filter p).flatMap f).length≤l.length
 | []=>by simp
 | a::r=>by
  have:=zfk p f hf r
  have h1:=hf a
  rw[List.filter_cons]
  split
  ·rw[List.flatMap_cons,List.length_append,List.length_cons];omega
  ·rw[List.length_cons];omega
theorem zw2 (o:Ord):(z3w o).length≤1:=by unfold z3w;split<;>simp
theorem zwz (o:Ord):(z3v o).length≤1:=by unfold z3v;split<;>simp
theorem zw0 (o:Ord):(zw1 o).length≤1:=by unfold zw1;split<;>simp
end Go.Proofs.YtmjbgbmegbkmhaaGreat
namespace Go.Proofs.YtmjbgbmegbkmhaaGreat
set_option linter.all false
open Go.RowKit
set_option maxRecDepth 100000
set_option maxHeartbeats 400000
theorem zkn (a b:Trp):(decide (a.id=b.id)&&(decide (a.owner=b.owner)&&(decide (a.kind=b.kind)&&(decide (a.c.x=b.c.x)&&(decide (a.c.y=b.c.y)&&(decide (a.life=b.life)&&decide (a.load=b.load)))))))=decide (a=b):=by
 rw[Bool.eq_iff_iff];obtain⟨_,_,_,⟨_,_⟩,_,_⟩:=a;obtain⟨_,_,_,⟨_,_⟩,_,_⟩:=b;simp[and_assoc]
theorem ydi (l m:List Trp) (hl:l.length≤9223372036854775807) (hm:m.length≤9223372036854775807):Spec Tryz.prog 53 [.c (.sl 7 (l.map zat)),.c (.sl 7 (m.map zat))] [] (B (decide (l=m))) []:=by
 refine spB Tryz.func53 26 [.tmp 4] Tryz.results53 ?_
 try refine xst ?_
 refine cI (fun h1 => ?_) fun h1 => ?_
 ·have e:l≠m:=by intro e;subst e;simp at h1
  try refine xst ?_
  exact zb0 rfl trivial (Wk.of (by rw[decide_eq_false e];rfl))
 ·try refine xst ?_
  refine zaw (fun k:Nat=>⟨[(13,I .i64 k),(12,I .i64 l.length),(1,.c (.sl 7 (m.map zat))),(0,.c (.sl 7 (l.map zat)))],[],0⟩) (fun k:Nat=>k≤l.length∧∀j,j<k→l.getD j default=m.getD j default) (fun k:Nat=>l.length-k) (0) (⟨Nat.zero_le _,fun j h=>by omega⟩) (To.mk [] rfl rfl List.nodup_nil trivial ?_) ?_
  ·simp(etaStruct := .none)only[push_cast,zab,seval]
  rintro k ⟨hk,hn⟩
  try refine xst ?_
  refine cI (fun h2 => ?_) fun h2 => ?_
  ·have hlt:k<l.length:=by omega
   have hlt2:k<m.length:=by omega
   try refine xz4 (gd hlt) (gd hlt2) zav zkn ?_
   (try(refine⟨by kernel_rfl,?_⟩))
   try refine xz4 (gd hlt) (gd hlt2) zav zkn ?_
   refine cI (fun h3 => ?_) fun h3 => ?_
   ·have e:l≠m:=by intro e;subst e;simp at h3
    try refine xz4 (gd hlt) (gd hlt2) zav zkn ?_
    exact zb0 rfl trivial (Wk.of (by rw[decide_eq_false e];rfl))
   ·try refine xz4 (gd hlt) (gd hlt2) zav zkn ?_
    refine⟨k+1,⟨by omega,fun j hj=>by rcases Nat.lt_or_ge j k with h|h;exact hn j h;rw[show j=k by omega];simpa using h3⟩,by omega,To.mk [] rfl rfl List.nodup_nil trivial ?_⟩
    ·(try(refine xz4 (gd hlt) (gd hlt2) zav zkn ?_;try exact xtI))
  ·have e:l=m:=by
    refine List.ext_getElem (by omega) fun i i1 i2 => ?_
    have:=hn i (by omega)
    rwa [zac _ _ i1,zac _ _ i2]at this
   try refine xst ?_
   exact zb0 rfl trivial (Wk.of (by rw[decide_eq_true e];rfl))
theorem zsm (a b:Fld) (ha:a.p.length≤9223372036854775807) (hb:b.p.length≤9223372036854775807):Spec Tryz.prog 50 [zy6 a,zy6 b] [] (B (decide (a=b))) []:=by
 have e:decide (a=b)=(decide (a.w=b.w)&&decide (a.h=b.h)&&decide (a.p=b.p)):=by
  rw[Bool.eq_iff_iff];obtain⟨_,_,_⟩:=a;obtain⟨_,_,_⟩:=b;simp[and_assoc]
 refine spB Tryz.func50 24 [.tmp 4] Tryz.results50 ?_
 try refine xst ?_
 refine gcP (fun hcc=>z1z a.p b.p ha hb) ?_
 try refine xst ?_
 (first|(refine zar rfl (Wk.of ?_);(try simp(etaStruct := .none)only[push_cast,zab,seval]);first|done|(simp[e, *];done)|(simp_all[e];done))|(refine zar rfl ?_;(try simp(etaStruct := .none)only[push_cast,zab,seval]);(try simp[e, *]);(try exact wkc)))
theorem zsl (a b:Wld) (ha:ze8 a) (hb:ze8 b):Spec Tryz.prog 15 [zcx a,zcx b] [] (B (decide (a=b))) []:=by
 have e:decide (a=b)=(decide (a.f=b.f)&&decide (a.bases=b.bases)&&decide (a.stocks=b.stocks)&&decide (a.mines=b.mines)&&decide (a.troops=b.troops)&&decide (a.next=b.next)&&decide (a.now=b.now)):=by
  rw[Bool.eq_iff_iff];obtain⟨_,_,_,_,_,_,_⟩:=a;obtain⟨_,_,_,_,_,_,_⟩:=b;simp[and_assoc]
 obtain⟨a1,a2,a3,a4,a5⟩:=ha
 obtain⟨b1,b2,b3,b4,b5⟩:=hb
 refine spB Tryz.func15 52 [.tmp 4] Tryz.results15 ?_
 try refine xst ?_
 refine caP (zsm a.f b.f a1 b1) ?_
 try refine xst ?_
 refine gcP (fun hcc=>yft a.bases b.bases a2 b2) ?_
 try refine xst ?_
 refine gcP (fun hcc=>z1z a.stocks b.stocks a3 b3) ?_
 try refine xst ?_
 refine gcP (fun hcc=>z1z a.mines b.mines a4 b4) ?_
 try refine xst ?_
 refine gcP (fun hcc=>ydi a.troops b.troops a5 b5) ?_
 try refine xst ?_
 (first|(refine zar rfl (Wk.of ?_);(try simp(etaStruct := .none)only[push_cast,zab,seval]);first|done|(simp[e, *];done)|(simp_all[e];done))|(refine zar rfl ?_;(try simp(etaStruct := .none)only[push_cast,zab,seval]);(try simp[e, *]);(try exact wkc)))
theorem zd9 (l:List Int) (hl:l.length≤17592186044415):Spec Tryz.prog 41 [.c (.sl 1 (l.map zad))] [] (.own 0) [.row 3 1 (l.map zad)]:=by
 refine spB Tryz.func41 8 [.tmp 2] Tryz.results41 ?_
 try refine xst ?_
 intro b hb
 try refine xst ?_
 refine zax (fun h => ?_) (fun h => ?_)
 ·try refine xst ?_
  have e:=hb h
  refine zmg (To.nil 2 3 1 rfl) (zcc [0] rfl rfl (by decide) ⟨?_,trivial⟩ trivial ?_)
  ·simp(etaStruct := .none)only[push_cast,zab,seval,e]
  ·simp(etaStruct := .none)only[push_cast,zab,seval]
 ·try refine xst ?_
  refine zcc [1] rfl rfl (by decide) ⟨?_,trivial⟩ trivial ?_
  ·simp(etaStruct := .none)only[push_cast,zab,seval]
  ·simp(etaStruct := .none)only[push_cast,zab,seval]
theorem zfh (l:List Int) (hl:l.length≤17592186044415):Spec Tryz.prog 41 [.c (.sl 1 (l.map zad))] [] (.c (.sl 1 (l.map zad))) []:=by
 refine spB Tryz.func41 8 [.tmp 2] Tryz.results41 ?_
 try refine xst ?_
 intro b hb
 try refine xst ?_
 refine zax (fun h => ?_) (fun h => ?_)
 ·try refine xst ?_
  exact zb0 rfl trivial (by rw[hb h];exact Wk.nil _)
 ·try refine xst ?_
  exact zb0 rfl trivial (Wk.refl _)
theorem zrr (l:List Cel) (hl:l.length≤8796093022207):Spec Tryz.prog 42 [.c (.sl 2 (l.map za2))] [] (.own 0) [.row 46 2 (l.map za2)]:=by
 refine spB Tryz.func42 8 [.tmp 2] Tryz.results42 ?_
 try refine xst ?_
 intro b hb
 try refine xst ?_
 refine zax (fun h => ?_) (fun h => ?_)
 ·try refine xst ?_
  have e:=hb h
  refine zmg (To.nil 2 46 2 rfl) (zcc [0] rfl rfl (by decide) ⟨?_,trivial⟩ trivial ?_)
  ·simp(etaStruct := .none)only[push_cast,zab,seval,e]
  ·simp(etaStruct := .none)only[push_cast,zab,seval]
 ·try refine xst ?_
  refine zcc [1] rfl rfl (by decide) ⟨?_,trivial⟩ trivial ?_
  ·simp(etaStruct := .none)only[push_cast,zab,seval]
  ·simp(etaStruct := .none)only[push_cast,zab,seval]
theorem zo7 (l:List Cel) (hl:l.length≤8796093022207):Spec Tryz.prog 42 [.c (.sl 2 (l.map za2))] [] (.c (.sl 2 (l.map za2))) []:=by
 refine spB Tryz.func42 8 [.tmp 2] Tryz.results42 ?_
 try refine xst ?_
 intro b hb
 try refine xst ?_
 refine zax (fun h => ?_) (fun h => ?_)
 ·try refine xst ?_
  exact zb0 rfl trivial (by rw[hb h];exact Wk.nil _)
 ·try refine xst ?_
  exact zb0 rfl trivial (Wk.refl _)
theorem zko (l:List Trp) (hl:l.length≤2513169434916):Spec Tryz.prog 44 [.c (.sl 7 (l.map zat))] [] (.own 0) [.row 108 7 (l.map zat)]:=by
 refine spB Tryz.func44 8 [.tmp 2] Tryz.results44 ?_
 try refine xst ?_
 intro b hb
 try refine xst ?_
 refine zax (fun h => ?_) (fun h => ?_)
 ·try refine xst ?_
  have e:=hb h
  refine zmg (To.nil 2 108 7 rfl) (zcc [0] rfl rfl (by decide) ⟨?_,trivial⟩ trivial ?_)
  ·simp(etaStruct := .none)only[push_cast,zab,seval,e]
  ·simp(etaStruct := .none)only[push_cast,zab,seval]
 ·try refine xst ?_
  refine zcc [1] rfl rfl (by decide) ⟨?_,trivial⟩ trivial ?_
  ·simp(etaStruct := .none)only[push_cast,zab,seval]
  ·simp(etaStruct := .none)only[push_cast,zab,seval]
theorem zua (l:List Trp) (hl:l.length≤2513169434916):Spec Tryz.prog 44 [.c (.sl 7 (l.map zat))] [] (.c (.sl 7 (l.map zat))) []:=by
 refine spB Tryz.func44 8 [.tmp 2] Tryz.results44 ?_
 try refine xst ?_
 intro b hb
 try refine xst ?_
 refine zax (fun h => ?_) (fun h => ?_)
 ·try refine xst ?_
  exact zb0 rfl trivial (by rw[hb h];exact Wk.nil _)
 ·try refine xst ?_
  exact zb0 rfl trivial (Wk.refl _)
end Go.Proofs.YtmjbgbmegbkmhaaGreat
namespace Go.Proofs.YtmjbgbmegbkmhaaGreat
set_option linter.all false
open Go.RowKit
set_option maxRecDepth 100000
set_option maxHeartbeats 2000000
theorem zqz (a b:Cel):(zlq a b).length=max (b.x-a.x).natAbs (b.y-a.y).natAbs+1:=by simp[zlq,zao]
theorem z5x (a:Cel) (sx sy:Int) (X Y k L m:Nat) (hL:L=max X Y) (hm:m=min X Y) (h0:0<L) :
 lpt a sx sy X Y (k+1)=⟨if Y≤X∨2*L≤lr L m k+2*m then (lpt a sx sy X Y k).x+sx else (lpt a sx sy X Y k).x,if X<Y∨2*L≤lr L m k+2*m then (lpt a sx sy X Y k).y+sy else (lpt a sx sy X Y k).y⟩ ∧
 (lr L m (k+1):Int)=if 2*L≤lr L m k+2*m then (lr L m k:Int)+2*m-2*L else lr L m k+2*m:=by
 by_cases h:Y≤X
 ·obtain rfl:L=X:=by omega
  obtain rfl:m=Y:=by omega
  have st:=zoi L m k h0 h
  rw[z1l a sx sy L m k h h0,if_pos (show m≤L∨2*L≤lr L m k+2*m from Or.inl h)]
  by_cases hc:2*L≤lr L m k+2*m
  ·rw[if_pos hc,if_pos (show L<m∨2*L≤lr L m k+2*m from Or.inr hc),if_pos hc];exact⟨rfl,by have:=(st.1 hc).2;omega⟩
  ·rw[if_neg hc,if_neg (show ¬(L<m∨2*L≤lr L m k+2*m)by omega),if_neg hc];exact⟨rfl,by have:=(st.2 (by omega)).2;omega⟩
 ·obtain rfl:L=Y:=by omega
  obtain rfl:m=X:=by omega
  have st:=zoi L m k h0 (by omega)
  rw[z1k a sx sy m L k (by omega),if_pos (show m<L∨2*L≤lr L m k+2*m from Or.inl (by omega))]
  by_cases hc:2*L≤lr L m k+2*m
  ·rw[if_pos hc,if_pos (show L≤m∨2*L≤lr L m k+2*m from Or.inr hc),if_pos hc];exact⟨rfl,by have:=(st.1 hc).2;omega⟩
  ·rw[if_neg hc,if_neg (show ¬(L≤m∨2*L≤lr L m k+2*m)by omega),if_neg hc];exact⟨rfl,by have:=(st.2 (by omega)).2;omega⟩
theorem z1j (a:Cel) (sx sy:Int) (X Y:Nat):zy3 a sx sy X Y 0 = [a]:=by simp[zy3,zoj]
theorem yb8 (a b:Cel) (ha:zed a=true) (hb:zed b=true):Spec Tryz.prog 157 [zgw a,zgw b] [] (.tup [.c (.sl 2 ((zlq a b).map za2)),I .i64 0]) []:=by
 have hx:=ziy ha
 have hy:=ziy hb
 obtain⟨sx,hsx⟩:∃s,s=(b.x-a.x).sign:=⟨_,rfl⟩
 obtain⟨sy,hsy⟩:∃s,s=(b.y-a.y).sign:=⟨_,rfl⟩
 obtain⟨X,hX⟩:∃s,s=(b.x-a.x).natAbs:=⟨_,rfl⟩
 obtain⟨Y,hY⟩:∃s,s=(b.y-a.y).natAbs:=⟨_,rfl⟩
 have gx:=sg (b.x-a.x)
 have gy:=sg (b.y-a.y)
 rw[←hsx]at gx
 rw[←hsy]at gy
 have S1:=zum (b.x-a.x) (by omega) (by omega)
 have S2:=zum (b.y-a.y) (by omega) (by omega)
 have hX2:X≤2000:=by omega
 have hY2:Y≤2000:=by omega
 unfold zlq
 rw[←hsx,←hX]at S1 ⊢
 rw[←hsy,←hY]at S2 ⊢
 obtain⟨L,hL⟩:∃L,L=max X Y:=⟨_,rfl⟩
 obtain⟨m,hm⟩:∃m,m=min X Y:=⟨_,rfl⟩
 rw[←hL]
 have LR:=fun k h0=>yiq L m k h0
 have NR:=fun k hk=>z5y a sx sy X Y k gx gy hX2 hY2 hk ha
 clear hsx hsy hX hY
 refine spB Tryz.func157 93 [.tmp 4,.tmp 5] Tryz.results157 ?_
 try refine xz1 zao ?_
 refine caP (zvd a (by omega) (by omega)) ?_
 try refine xz1 zao ?_
 refine gcP (fun hcc=>zvd b (by omega) (by omega)) ?_
 try refine xz1 zao ?_
 refine cI (fun h1 => ?_) fun h1 => ?_
 ·simp[ha,hb]at h1
 ·try refine xz1 zao ?_
  refine caP (S1) ?_
  try refine xz1 zao ?_
  refine caP (S2) ?_
  try refine xz1 zao ?_
  refine znj (fun _u:Unit=>⟨[(10,I .i64 L),(11,I .i64 m),(9,I .i64 Y),(8,I .i64 sy),(7,I .i64 X),(6,I .i64 sx),(2,.ptr 0 0 0)],[(0,.blk 46 [I .i64 a.x,I .i64 a.y])],1⟩) (fun _u:Unit=>Tr) (fun h2 => ?_) (fun h2 => ?_) ?_
  ·(try replace h2:=xhh h2)
   obtain rfl:L=Y:=by omega
   obtain rfl:m=X:=by omega
   try refine xz1 zao ?_
   refine⟨(),trI,To.mk [0] rfl rfl (by decide) ?_ ?_⟩
   ·(try(refine xz1 zao ?_;try exact xtI))
   ·(try(refine xz1 zao ?_;try exact xtI))
  ·(try replace h2:=xhh h2)
   obtain rfl:L=X:=by omega
   obtain rfl:m=Y:=by omega
   try refine xz1 zao ?_
   refine⟨(),trI,To.mk [0] rfl rfl (by decide) ?_ ?_⟩
   ·(try(refine xz1 zao ?_;try exact xtI))
   ·(try(refine xz1 zao ?_;try exact xtI))
  ·rintro _ _
   try refine xz1 zao ?_
   refine zaw (fun k:Nat=>⟨[(51,I .i64 k),(50,I .i64 L),(13,I .i64 ((lr L m k:Int)-L)),(12,.own 1),(11,I .i64 m),(10,I .i64 L),(9,I .i64 Y),(8,I .i64 sy),(7,I .i64 X),(6,I .i64 sx),(2,.ptr 0 0 0)],[(0,.blk 46 [I .i64 (lpt a sx sy X Y k).x,I .i64 (lpt a sx sy X Y k).y]),(1,.row 46 2 ((zy3 a sx sy X Y k).map za2))],2⟩) (fun k:Nat=>k≤L) (fun k:Nat=>L-k) (0) (Nat.zero_le _) (To.mk [0,1] rfl rfl (by decide) ?_ ?_) ?_
   ·simp(etaStruct := .none)only[push_cast,zab,seval,zoj,z1j,za2]
   ·simp(etaStruct := .none)only[push_cast,zab,seval,zoj,yay,Int.sub_self]
   rintro k hk
   try refine xz1 zao ?_
   refine cI (fun h3 => ?_) fun h3 => ?_
   ·have hlt:k<L:=by omega
    obtain⟨ST,SR⟩:=z5x a sx sy X Y k L m hL hm (by omega)
    have hlr:=LR k (by omega)
    have hnr:=NR k (by omega)
    have hnr2:=NR (k+1) (by omega)
    try refine xz1 zao ?_
    refine znj (fun o:Bool=>⟨[(51,I .i64 k),(50,I .i64 L),(14,B o),(13,I .i64 ((lr L m (k+1):Int)-L)),(12,.own 1),(11,I .i64 m),(10,I .i64 L),(9,I .i64 Y),(8,I .i64 sy),(7,I .i64 X),(6,I .i64 sx),(2,.ptr 0 0 0)],[(0,.blk 46 [I .i64 (lpt a sx sy X Y k).x,I .i64 (lpt a sx sy X Y k).y]),(1,.row 46 2 ((zy3 a sx sy X Y k).map za2))],2⟩) (fun o:Bool=>(o=true↔2*L≤lr L m k+2*m)) (fun h4 => ?_) (fun h4 => ?_) ?_
    ·(try replace h4:=xhh h4)
     have e1:(lr L m k:Int)-L+2*m-2*L=(lr L m (k+1):Int)-L:=by rw[SR,if_pos (by omega)];omega
     have e2:decide ((L:Int)≤(lr L m k:Int)-L+2*m)=true:=by simp;omega
     try refine xz3 zao e1 e2 ?_
     refine⟨true,by simp;omega,To.mk [0,1] rfl rfl (by decide) ?_ ?_⟩
     ·(try(refine xz3 zao e1 e2 ?_;try exact xtI))
     ·(try(refine xz3 zao e1 e2 ?_;try exact xtI))
    ·(try replace h4:=xhh h4)
     have e1:(lr L m k:Int)-L+2*m=(lr L m (k+1):Int)-L:=by rw[SR,if_neg (by omega)];omega
     have e2:decide ((L:Int)≤(lr L m (k+1):Int)-L)=false:=by rw[←e1];simp;omega
     try refine xz3 zao e1 e2 ?_
     refine⟨false,by simp;omega,To.mk [0,1] rfl rfl (by decide) ?_ ?_⟩
     ·(try(refine xz3 zao e1 e2 ?_;try exact xtI))
     ·(try(refine xz3 zao e1 e2 ?_;try exact xtI))
    ·rintro o ho
     try refine xz1 zao ?_
     refine znj (fun _u:Unit=>⟨[(51,I .i64 k),(50,I .i64 L),(14,B o),(13,I .i64 ((lr L m (k+1):Int)-L)),(12,.own 1),(11,I .i64 m),(10,I .i64 L),(9,I .i64 Y),(8,I .i64 sy),(7,I .i64 X),(6,I .i64 sx),(2,.ptr 0 0 0)],[(0,.blk 46 [I .i64 (lpt a sx sy X Y (k+1)).x,I .i64 (lpt a sx sy X Y k).y]),(1,.row 46 2 ((zy3 a sx sy X Y k).map za2))],2⟩) (fun _u:Unit=>Tr) (fun h5 => ?_) (fun h5 => ?_) ?_
     ·(try replace h5:=xhh h5)
      rw[ho]at h5
      have e1:(lpt a sx sy X Y k).x+sx=(lpt a sx sy X Y (k+1)).x:=by rw[ST];simp only;rw[if_pos (by omega)]
      try refine xz2 zao e1 ?_
      refine⟨(),trI,To.mk [0,1] rfl rfl (by decide) ?_ ?_⟩
      ·(try(refine xz2 zao e1 ?_;try exact xtI))
      ·(try(refine xz2 zao e1 ?_;try exact xtI))
     ·(try replace h5:=xhh h5)
      rw[Bool.eq_false_iff,ne_eq,ho]at h5
      have e1:(lpt a sx sy X Y k).x=(lpt a sx sy X Y (k+1)).x:=by rw[ST];simp only;rw[if_neg (by omega)]
      try refine xz1 zao ?_
      refine⟨(),trI,To.mk [0,1] rfl rfl (by decide) ?_ ?_⟩
      ·simp(etaStruct := .none)only[push_cast,zab,seval]
       rw[←e1]
       simp(etaStruct := .none)only[push_cast,zab,seval]
      ·(try(refine xz1 zao ?_;try exact xtI))
     ·rintro _ _
      try refine xz1 zao ?_
      refine cI (fun h6 => ?_) fun h6 => ?_
      ·rw[ho]at h6
       have e1:(lpt a sx sy X Y k).y+sy=(lpt a sx sy X Y (k+1)).y:=by rw[ST];simp only;rw[if_pos (by omega)]
       try refine xz2 zao e1 ?_
       refine⟨k+1,by omega,by omega,To.mk [0,3] rfl rfl (by decide) ?_ ?_⟩
       ·(iterate 2((try simp(etaStruct := .none)only[push_cast,zab,seval,zqy,List.map_append,za2]);(try(refine xsu ?_;try exact xtI))))
       ·(try(refine xz2 zao e1 ?_;try exact xtI))
      ·rw[Bool.eq_false_iff,ne_eq,ho]at h6
       have e1:(lpt a sx sy X Y k).y=(lpt a sx sy X Y (k+1)).y:=by rw[ST];simp only;rw[if_neg (by omega)]
       try refine xz1 zao ?_
       refine⟨k+1,by omega,by omega,To.mk [0,3] rfl rfl (by decide) ?_ ?_⟩
       ·iterate 2(try simp(etaStruct := .none)only[push_cast,zab,seval,zqy,List.map_append,za2];try refine xsu ?_)
        rw[←e1]
        exact⟨Wk.refl _,rfl⟩
       ·(try(refine xz1 zao ?_;try exact xtI))
   ·obtain rfl:k=L:=by omega
    try refine xz1 zao ?_
    exact xrz rfl
end Go.Proofs.YtmjbgbmegbkmhaaGreat
namespace Go.Proofs.YtmjbgbmegbkmhaaGreat
set_option linter.all false
open Go.RowKit
theorem zty (d:Int) (q:Nat) (hq:q≤d.natAbs) (f:Int):min f (f+d)≤f+d.sign*q∧f+d.sign*q≤max f (f+d):=by
 rcases Int.lt_trichotomy d 0 with h|h|h
 ·rw[Int.sign_eq_neg_one_of_neg h];omega
 ·subst h;simp
 ·rw[Int.sign_eq_one_of_pos h];omega
theorem yaz (a b:Cel) (k:Nat) (hk:k≤max (b.x-a.x).natAbs (b.y-a.y).natAbs) :
 (min a.x b.x≤(lpt a (b.x-a.x).sign (b.y-a.y).sign (b.x-a.x).natAbs (b.y-a.y).natAbs k).x∧(lpt a (b.x-a.x).sign (b.y-a.y).sign (b.x-a.x).natAbs (b.y-a.y).natAbs k).x≤max a.x b.x) ∧
 (min a.y b.y≤(lpt a (b.x-a.x).sign (b.y-a.y).sign (b.x-a.x).natAbs (b.y-a.y).natAbs k).y∧(lpt a (b.x-a.x).sign (b.y-a.y).sign (b.x-a.x).natAbs (b.y-a.y).natAbs k).y≤max a.y b.y):=by
 have ex:a.x+(b.x-a.x)=b.x:=by omega
 have ey:a.y+(b.y-a.y)=b.y:=by omega
 unfold lpt
 split
 ·rename_i h
  have hq:lq (b.x-a.x).natAbs (b.y-a.y).natAbs k≤(b.y-a.y).natAbs:=by
   rcases Nat.eq_zero_or_pos (b.x-a.x).natAbs with h0|h0
   ·have:k=0:=by omega
    subst this;rw[zs3];omega
   ·exact z5w _ _ _ h0 (by omega)
  have w1:=zty (b.x-a.x) k (by omega) a.x
  have w2:=zty (b.y-a.y) _ hq a.y
  rw[ex]at w1;rw[ey]at w2
  exact⟨w1,w2⟩
 ·rename_i h
  have hq:lq (b.y-a.y).natAbs (b.x-a.x).natAbs k≤(b.x-a.x).natAbs:=z5w _ _ _ (by omega) (by omega)
  have w1:=zty (b.y-a.y) k (by omega) a.y
  have w2:=zty (b.x-a.x) _ hq a.x
  rw[ey]at w1;rw[ex]at w2
  exact⟨w2,w1⟩
theorem z51 (a b:Cel) (k:Nat) (hk:k≤max (b.x-a.x).natAbs (b.y-a.y).natAbs):(zlq a b).getD k default=lpt a (b.x-a.x).sign (b.y-a.y).sign (b.x-a.x).natAbs (b.y-a.y).natAbs k:=by
 rw[zac _ _ (by rw[zqz];omega)]
 simp[zlq,zy3]
theorem zvv {f:Fld} {c:Cel} (h:zbk f=0) (hc:inF f c=true):zed c=true:=by
 obtain⟨h1,h2,_,_⟩:=zbc h
 obtain⟨h3,h4⟩:=inF_iff.1 hc
 unfold zed;simp;omega
theorem ya1 {f:Fld} {a b:Cel} (ha:inF f a=true) (hb:inF f b=true) (k:Nat) (hk:k≤max (b.x-a.x).natAbs (b.y-a.y).natAbs):inF f ((zlq a b).getD k default)=true:=by
 rw[z51 a b k hk]
 have:=yaz a b k hk
 rw[inF_iff]at ha hb ⊢
 omega
theorem z50 {f:Fld} {a b:Cel} (h:zbk f=0) (ha:inF f a=true) (hb:inF f b=true):(b.x-a.x).natAbs≤39∧(b.y-a.y).natAbs≤39:=by
 obtain⟨h1,h2,_,_⟩:=zbc h
 rw[inF_iff]at ha hb
 omega
def znm (p:Int):Bool:=decide (p % 3=0)
def zsw (f:Fld) (a b:Cel):Bool:=(List.range (max (b.x-a.x).natAbs (b.y-a.y).natAbs-1)).all fun k=>znm (zah f ((zlq a b).getD (k+1) default))
theorem yaf {f:Fld} {a b:Cel} (h:∀k,0<k→k<max (b.x-a.x).natAbs (b.y-a.y).natAbs→znm (zah f ((zlq a b).getD k default))=true):zsw f a b=true:=by
 unfold zsw
 rw[List.all_eq_true]
 intro k hk
 exact h (k+1) (by omega) (by simp at hk;omega)
theorem yag {f:Fld} {a b:Cel} {k:Nat} (h0:0<k) (h1:k<max (b.x-a.x).natAbs (b.y-a.y).natAbs) (h:znm (zah f ((zlq a b).getD k default))=false):zsw f a b=false:=by
 unfold zsw
 rw[List.all_eq_false]
 refine⟨k-1,by simp;omega,?_⟩
 rw[show k-1+1=k by omega,h];simp
def zf2 (f:Fld) (a b:Cel):Bool:=zsw f a b||zsw f b a
theorem z45 {f:Fld} (h:zbk f=0) {c:Cel} (hc:inF f c=true):0≤zah f c∧zah f c<4:=by
 obtain⟨_,_,_,h4⟩:=zbc h
 obtain⟨_,_,i3,i4,_⟩:=za5 h hc
 have hl:(c.y*f.w+c.x).toNat<f.p.length:=by omega
 unfold zah
 rw[zac _ _ hl]
 exact h4 _ (List.getElem_mem hl)
end Go.Proofs.YtmjbgbmegbkmhaaGreat
namespace Go.Proofs.YtmjbgbmegbkmhaaGreat
set_option linter.all false
open Go.RowKit
set_option maxRecDepth 100000
set_option maxHeartbeats 2000000
theorem zwv (f:Fld) (a b:Cel) (hf:zbk f=0) (ha:inF f a=true) (hb:inF f b=true):Spec Tryz.prog 130 [zy6 f,zgw a,zgw b] [] (B (zsw f a b)) []:=by
 have CS:=yb8 a b (zvv hf ha) (zvv hf hb)
 have LL:=zqz a b
 have LF:=z50 hf ha hb
 have LI:=fun k hk=>ya1 ha hb k hk
 have LT := @yaf f a b
 have LN := @yag f a b
 have PL:f.p.length≤1600:=(za5 hf ha).2.2.2.2
 generalize zlq a b=l at CS LL LI LT LN
 obtain⟨L,hL⟩:∃L,L=max (b.x-a.x).natAbs (b.y-a.y).natAbs:=⟨_,rfl⟩
 rw[←hL]at LL LI LT LN
 have hLL:L≤39:=by omega
 clear hL
 refine spB Tryz.func130 45 [.tmp 6] Tryz.results130 ?_
 iterate 2(try simp(etaStruct := .none)only[push_cast,zab,seval,LL,Int.add_sub_cancel];try refine xsu ?_)
 refine caP (CS) ?_
 iterate 2(try simp(etaStruct := .none)only[push_cast,zab,seval,LL,Int.add_sub_cancel];try refine xsu ?_)
 refine cI (fun h1 => ?_) fun h1 => ?_
 ·have hl2:L≤1:=by omega
  have e:=LT (fun k h0 h1=>by omega)
  iterate 2(try simp(etaStruct := .none)only[push_cast,zab,seval,LL,Int.add_sub_cancel];try refine xsu ?_)
  (first|(refine zar rfl (Wk.of ?_);(try simp(etaStruct := .none)only[push_cast,zab,seval]);first|done|(simp[e, *];done)|(simp_all[e];done))|(refine zar rfl ?_;(try simp(etaStruct := .none)only[push_cast,zab,seval]);(try simp[e, *]);(try exact wkc)))
 ·have e3:((l.map za2).take L).drop 1=((l.take L).drop 1).map za2:=by rw[List.map_drop,List.map_take]
  have e4:((l.take L).drop 1).length=L-1:=by simp;omega
  have e5:∀k,k<L-1→((l.take L).drop 1).getD k default=l.getD (k+1) default:=by intro k hk;simp[List.getD_eq_getElem?_getD,List.getElem?_drop,List.getElem?_take,show k+1<L by omega,Nat.add_comm]
  iterate 2(try simp(etaStruct := .none)only[push_cast,zab,seval,LL,Int.add_sub_cancel,e3,e4];try refine xsu ?_)
  refine zaw (fun k:Nat=>⟨[(28,I .i64 k),(27,I .i64 (L-1:Nat)),(26,.c (.sl 2 (((l.take L).drop 1).map za2))),(3,.ptr 0 0 0)],[(0,.blk 24 [I .i64 f.w,I .i64 f.h,.c (.sl 1 (f.p.map zad))])],1⟩) (fun k:Nat=>k≤L-1∧∀j,0<j→j≤k→znm (zah f (l.getD j default))=true) (fun k:Nat=>L-1-k) (0) (⟨Nat.zero_le _,fun j h h'=>by omega⟩) (To.mk [0] rfl rfl (by decide) ?_ ?_) ?_
  ·simp(etaStruct := .none)only[push_cast,zab,seval]
  ·simp(etaStruct := .none)only[push_cast,zab,seval]
  rintro k ⟨hk,hn⟩
  iterate 2(try simp(etaStruct := .none)only[push_cast,zab,seval,LL,Int.add_sub_cancel,e3,e4];try refine xsu ?_)
  refine cI (fun h2 => ?_) fun h2 => ?_
  ·have hlt:k<L-1:=by omega
   have hlt2:k<((l.take L).drop 1).length:=by omega
   have e6:=e5 k hlt
   have hin:=LI (k+1) (by omega)
   have AT:=zyv f (l.getD (k+1) default) (by omega)
   have AV:atV f (l.getD (k+1) default)=(zah f (l.getD (k+1) default),0):=by unfold atV;rw[if_neg (by simp[hf]),if_pos hin]
   rw[AV]at AT
   have p03:=z45 hf hin
   iterate 2(try simp(etaStruct := .none)only[push_cast,zab,seval,LL,Int.add_sub_cancel,e3,e4,zaa _ _ _ hlt2,za2,e6];try refine xsu ?_)
   refine caP (AT) ?_
   iterate 2(try simp(etaStruct := .none)only[push_cast,zab,seval,LL,Int.add_sub_cancel,e3,e4,zaa _ _ _ hlt2,za2,e6];try refine xsu ?_)
   refine cI (fun h3 => ?_) fun h3 => ?_
   ·have hc:znm (zah f (l.getD (k+1) default))=false:=decide_eq_false (by omega)
    have e:=LN (by omega) (by omega) hc
    iterate 2(try simp(etaStruct := .none)only[push_cast,zab,seval,LL,Int.add_sub_cancel,e3,e4,zaa _ _ _ hlt2,za2,e6];try refine xsu ?_)
    (first|(refine zar rfl (Wk.of ?_);(try simp(etaStruct := .none)only[push_cast,zab,seval]);first|done|(simp[e, *];done)|(simp_all[e];done))|(refine zar rfl ?_;(try simp(etaStruct := .none)only[push_cast,zab,seval]);(try simp[e, *]);(try exact wkc)))
   ·have hc:znm (zah f (l.getD (k+1) default))=true:=decide_eq_true (by omega)
    iterate 2(try simp(etaStruct := .none)only[push_cast,zab,seval,LL,Int.add_sub_cancel,e3,e4,zaa _ _ _ hlt2,za2,e6];try refine xsu ?_)
    refine⟨k+1,⟨by omega,fun j h0 h1=>by rcases Nat.lt_or_ge k j with h|h;rw[show j=k+1 by omega];exact hc;exact hn j h0 h⟩,by omega,To.mk [0] rfl rfl (by decide) ?_ ?_⟩
    ·(iterate 2((try simp(etaStruct := .none)only[push_cast,zab,seval,LL,Int.add_sub_cancel,e3,e4,zaa _ _ _ hlt2,za2,e6]);(try(refine xsu ?_;try exact xtI))))
    ·(iterate 2((try simp(etaStruct := .none)only[push_cast,zab,seval,LL,Int.add_sub_cancel,e3,e4,zaa _ _ _ hlt2,za2,e6]);(try(refine xsu ?_;try exact xtI))))
  ·have e:=LT (fun j h0 h1=>hn j h0 (by omega))
   iterate 2(try simp(etaStruct := .none)only[push_cast,zab,seval,LL,Int.add_sub_cancel,e3,e4];try refine xsu ?_)
   (first|(refine zar rfl (Wk.of ?_);(try simp(etaStruct := .none)only[push_cast,zab,seval]);first|done|(simp[e, *];done)|(simp_all[e];done))|(refine zar rfl ?_;(try simp(etaStruct := .none)only[push_cast,zab,seval]);(try simp[e, *]);(try exact wkc)))
theorem yjc (f:Fld) (c:Cel):(atV f c).2=if zbk f≠0 then zbk f else if inF f c then 0 else 7:=by
 unfold atV;split
 ·rfl
 ·split<;>rfl
theorem yjp {f:Fld} {c:Cel} (h:(atV f c).2=0):zbk f=0∧inF f c=true:=by
 rw[yjc]at h
 split at h
 ·rename_i h1;exact absurd h h1
 ·rename_i h1
  split at h
  ·rename_i h2;exact⟨Decidable.not_not.1 h1,h2⟩
  ·simp at h
def zpx (f:Fld) (a b:Cel):Bool × Int:=if zbk f≠0 then (false,zbk f)else if inF f a&&inF f b then (zf2 f a b,0)else (false,7)
theorem yds (f:Fld) (a b:Cel) (hl:f.p.length≤9223372036854775807):Spec Tryz.prog 159 [zy6 f,zgw a,zgw b] [] (.tup [B (zpx f a b).1,I .i64 (zpx f a b).2]) []:=by
 refine spB Tryz.func159 38 [.tmp 6,.tmp 7] Tryz.results159 ?_
 try refine xst ?_
 refine zaw (fun k:Nat=>⟨[(15,I .i64 k),(14,.agg [I .i64 a.x,I .i64 a.y,I .i64 b.x,I .i64 b.y]),(5,.ptr 2 0 0),(4,.ptr 1 0 0),(3,.ptr 0 0 0)],[(0,.blk 24 [I .i64 f.w,I .i64 f.h,.c (.sl 1 (f.p.map zad))]),(1,.blk 46 [I .i64 a.x,I .i64 a.y]),(2,.blk 46 [I .i64 b.x,I .i64 b.y])],3⟩) (fun k:Nat=>k≤2∧(0<k→zbk f=0∧inF f a=true)∧(1<k→inF f b=true)) (fun k:Nat=>2-k) (0) (⟨by omega,fun h=>by omega,fun h=>by omega⟩) (To.mk [0,1,2] rfl rfl (by decide) ?_ ?_) ?_
 ·simp(etaStruct := .none)only[push_cast,zab,seval]
 ·simp(etaStruct := .none)only[push_cast,zab,seval]
 rintro k ⟨hk,q1,q2⟩
 try refine xst ?_
 refine cI (fun h1 => ?_) fun h1 => ?_
 ·obtain⟨c,hc1,hc2,hc3⟩:∃c:Cel,(k=0→c=a)∧(k=1→c=b)∧List.take 2 (List.drop (k*2) [AV.c (PV.v (.int .i64 a.x)),.c (.v (.int .i64 a.y)),.c (.v (.int .i64 b.x)),.c (.v (.int .i64 b.y))]) = [.c (.v (.int .i64 c.x)),.c (.v (.int .i64 c.y))]:=by
   rcases (show k=0∨k=1 by omega)with rfl|rfl
   ·exact⟨a,fun _=>rfl,fun h=>by omega,rfl⟩
   ·exact⟨b,fun h=>by omega,fun _=>rfl,rfl⟩
  try refine xz1 hc3 ?_
  refine caP (zyv f c hl) ?_
  try refine xz1 hc3 ?_
  refine cI (fun h2 => ?_) fun h2 => ?_
  ·have e2:=yjc f c
   have e3:zpx f a b=(false,(atV f c).2):=by
    unfold zpx
    by_cases hf:zbk f=0
    ·rw[if_neg (by simp[hf])]
     rw[if_neg (by simp[hf])]at e2
     cases hc:inF f c with
     | true=>rw[hc]at e2;exact absurd e2 h2
     | false =>
      rw[hc]at e2
      rw[e2]
      rcases (show k=0∨k=1 by omega)with h|h
      ·rw[←hc1 h,hc];rfl
      ·rw[←hc2 h,hc];simp
    ·rw[if_pos hf]at e2 ⊢;rw[e2]
   try refine xz1 hc3 ?_
   (first|(refine zar rfl (Wk.of ?_);(try simp(etaStruct := .none)only[push_cast,zab,seval]);first|done|(simp[e3, *];done)|(simp_all[e3];done))|(refine zar rfl ?_;(try simp(etaStruct := .none)only[push_cast,zab,seval]);(try simp[e3, *]);(try exact wkc)))
  ·obtain⟨a1,a2⟩:=yjp h2
   try refine xz1 hc3 ?_
   refine⟨k+1,⟨by omega,fun _=>⟨a1,by rcases (show k=0∨k=1 by omega)with h|h;rw[←hc1 h];exact a2;exact(q1 (by omega)).2⟩,fun h=>by rw[←hc2 (by omega)];exact a2⟩,by omega,To.mk [0,1,2] rfl rfl (by decide) ?_ ?_⟩
   ·(try(refine xz1 hc3 ?_;try exact xtI))
   ·(try(refine xz1 hc3 ?_;try exact xtI))
 ·obtain⟨hf,ha⟩:=q1 (by omega)
  have hb:=q2 (by omega)
  have e4:zpx f a b=(zf2 f a b,0):=by unfold zpx;rw[if_neg (by simp[hf]),if_pos (by simp[ha,hb])]
  try refine xst ?_
  refine caP (zwv f a b hf ha hb) ?_
  try refine xst ?_
  refine gcP (fun hcc=>zwv f b a hf hb ha) ?_
  try refine xst ?_
  (first|(refine zar rfl (Wk.of ?_);(try simp(etaStruct := .none)only[push_cast,zab,seval]);first|done|(simp[e4,zf2, *];done)|(simp_all[e4,zf2];done))|(refine zar rfl ?_;(try simp(etaStruct := .none)only[push_cast,zab,seval]);(try simp[e4,zf2, *]);(try exact wkc)))
def zb8 (w:Int) (i:Nat):Cel:=⟨(i:Int) % w,(i:Int)/w⟩
def zfq (f:Fld) (c:Cel) (r:Int) (m:Cel):Bool:=decide (max ((m.x-c.x).natAbs:Int) ((m.y-c.y).natAbs:Int)≤r)&&zf2 f c m
def zbg (f:Fld) (c:Cel) (r:Int) (n:Nat):List Cel:=((List.range n).map (zb8 f.w)).filter (zfq f c r)
theorem zmv (f:Fld) (c:Cel) (r:Int) (n:Nat):zbg f c r (n+1)=zbg f c r n++if zfq f c r (zb8 f.w n)then [zb8 f.w n]else []:=by
 unfold zbg
 rw[List.range_succ,List.map_append,List.filter_append]
 congr 1
 simp[List.filter_cons]
theorem z9r {f:Fld} {c:Cel} {r:Int} {n:Nat} (h:zfq f c r (zb8 f.w n)=true):zbg f c r (n+1)=zbg f c r n ++ [zb8 f.w n]:=by rw[zmv,if_pos h]
theorem zz4 {f:Fld} {c:Cel} {r:Int} {n:Nat} (h:zfq f c r (zb8 f.w n)=false):zbg f c r (n+1)=zbg f c r n:=by rw[zmv,if_neg (by simp[h]),List.append_nil]
theorem zmw (f:Fld) (c:Cel) (r:Int) (n:Nat):∀d,(∀i,n≤i→i<n+d→zfq f c r (zb8 f.w i)=false)→zbg f c r (n+d)=zbg f c r n
 | 0,_=>rfl
 | d+1,h=>by rw[←Nat.add_assoc,zz4 (h _ (by omega) (by omega))];exact zmw f c r n d fun i h1 h2=>h i h1 (by omega)
theorem zj2 {f:Fld} {c:Cel} {r:Int} {n m:Nat} (hnm:n≤m) (h:∀i,n≤i→i<m→zfq f c r (zb8 f.w i)=false):zbg f c r m=zbg f c r n:=by
 rw[show m=n+(m-n)by omega];exact zmw f c r n _ fun i h1 h2=>h i h1 (by omega)
theorem zpy (f:Fld) (c:Cel) (r:Int) (n:Nat):(zbg f c r n).length≤n:=by
 unfold zbg
 exact Nat.le_trans (List.length_filter_le _ _) (by simp)
theorem zj1 {f:Fld} {c:Cel} {r:Int} {m:Cel} (h:m.x<c.x-r∨c.x+r<m.x∨m.y<c.y-r∨c.y+r<m.y):zfq f c r m=false:=by
 unfold zfq
 rw[decide_eq_false (by omega)];rfl
theorem z65 {w:Int} {W X Y:Nat} (hw:w=W) (hX:X<W):zb8 w (Y*W+X)=⟨X,Y⟩:=by
 have e1:(Y*W+X) % W=X:=by rw[Nat.mul_comm,Nat.mul_add_mod,Nat.mod_eq_of_lt hX]
 have e2:(Y*W+X)/W=Y:=by rw[Nat.mul_comm,Nat.mul_add_div (by omega),Nat.div_eq_of_lt hX,Nat.add_zero]
 unfold zb8
 rw[hw,←Int.natCast_emod,←Int.natCast_ediv,e1,e2]
theorem z64 {f:Fld} (hf:zbk f=0) {i:Nat} (hi:(i:Int)<f.w*f.h):inF f (zb8 f.w i)=true:=by
 obtain⟨h1,h2,_,_⟩:=zbc hf
 rw[inF_iff]
 unfold zb8
 have:=Int.emod_nonneg (i:Int) (show f.w≠0 by omega)
 have:=Int.emod_lt_of_pos (i:Int) (show 0<f.w by omega)
 have:=Int.ediv_nonneg (a:=(i:Int)) (b:=f.w) (by omega) (by omega)
 have:(i:Int)/f.w<f.h:=Int.ediv_lt_of_lt_mul (by omega) (by rw[Int.mul_comm];exact hi)
 simp only;omega
def zmf (f:Fld) (c:Cel) (r:Int):List Cel × Int :=
 if zbk f≠0 then ([],zbk f)else if inF f c=false then ([],7)else if zai r 0 12=false then ([],1)else (zbg f c r f.p.length,0)
end Go.Proofs.YtmjbgbmegbkmhaaGreat
namespace Go.Proofs.YtmjbgbmegbkmhaaGreat
set_option linter.all false
open Go.RowKit
set_option maxRecDepth 100000
def z54 (a b:Cel):Nat:=max (a.x-b.x).natAbs (a.y-b.y).natAbs
def zjq (w:Wld) (x y:Trp):Bool := !decide (x.owner=y.owner)&&decide ((z54 x.c y.c:Int)≤(zbe x.kind).blow)&&zf2 w.f x.c y.c
def zmo (w:Wld) (b:Blw):Bool:=(zda w b.by_).isSome&&(zda w b.at_).isSome&&zjq w ((zda w b.by_).getD z7t) ((zda w b.at_).getD z7t)
def zlv (w:Wld) (t:Trp) (b:Blw):Bool:=decide (b.by_=t.id)&&zmo w b
def zvy (w:Wld) (l:List Blw) (id:Int) (t:Trp):Int:=match l.find? (zlv w t)with|some b=>if b.at_=id then (zbe t.kind).load else 0|none=>0
def z3r (l:List Int):Int:=l.sum
theorem zug:∀(l:List Int) (i:Nat) (v:Int),i<l.length→z3r (l.set i v)=z3r l-l.getD i default+v
 | [],i,v,h=>by simp at h
 | a::r,0,v,_=>by simp[z3r];omega
 | a::r,i+1,v,h=>by
  have:=zug r i v (by simpa using h)
  simp only[z3r,List.set_cons_succ,List.sum_cons,List.getD_cons_succ]at this ⊢
  omega
def zft (w:Wld) (l:List Blw) (id:Int):Int:=z3r (w.troops.map (zvy w l id))
def Ups (w:Wld):Prop:=∀i j,i<j→j<w.troops.length→(w.troops.getD i default).id<(w.troops.getD j default).id
theorem ydb {w:Wld} (h:zam w=0):Ups w:=by
 intro i j hij hj
 have h2:=(ze9 h hj).2
 unfold z7s at h2
 have:=(zbd _ _).1 h2 i hij
 simp only[Bool.and_eq_true,decide_eq_true_eq]at this
 exact this.1
theorem Ups.ne {w:Wld} (h:Ups w) {i j:Nat} (hi:i<w.troops.length) (hj:j<w.troops.length) (hne:i≠j):(w.troops.getD i default).id≠(w.troops.getD j default).id:=by
 rcases Nat.lt_or_gt_of_ne hne with h1|h1
 ·have:=h i j h1 hj;omega
 ·have:=h j i h1 hi;omega
theorem zyn {w:Wld} {n:Int} (h:(zda w n).isSome=true):∃i,i<w.troops.length∧(w.troops.getD i default).id=n∧(zda w n).getD z7t=w.troops.getD i default:=by
 unfold zda at *
 obtain⟨t,ht⟩:=Option.isSome_iff_exists.1 h
 have hm:=List.mem_of_find?_eq_some ht
 have hp:=List.find?_some ht
 obtain⟨i,hi,e⟩:=mem_getD.1 hm
 refine⟨i,hi,by rw[e];simpa using hp,by rw[ht,e];rfl⟩
theorem zq9 (w:Wld) (l:List Blw) (b:Blw) (id:Int) (t:Trp):zvy w (l ++ [b]) id t=if l.any (zlv w t)=false∧zlv w t b=true then (if b.at_=id then (zbe t.kind).load else 0)else zvy w l id t:=by
 unfold zvy
 rw[List.find?_append]
 cases h:l.find? (zlv w t)with
 | some x =>
  have hx:=List.find?_some h
  have hm:=List.mem_of_find?_eq_some h
  have:l.any (zlv w t)=true:=List.any_eq_true.2 ⟨x,hm,hx⟩
  rw[if_neg (by simp[this])];rfl
 | none =>
  have:l.any (zlv w t)=false:=by rw[List.any_eq_false];intro x hx;exact List.find?_eq_none.1 h x hx
  rw[this]
  cases hp:zlv w t b with
  | true=>simp[hp]
  | false=>simp[hp]
theorem z16 (w:Wld) (l:List Blw) (id:Int) (t:Trp) (h:l.any (zlv w t)=false):zvy w l id t=0:=by
 unfold zvy
 rw[List.find?_eq_none.2 (fun x hx=>by have:=List.any_eq_false.1 h x hx;simpa using this)]
theorem z2a {w:Wld} (hu:Ups w) (l:List Blw) (b:Blw) (id:Int) (h:zmo w b=false∨∃i,i<w.troops.length∧(w.troops.getD i default).id=b.by_∧l.any (zlv w (w.troops.getD i default))=true):zft w (l ++ [b]) id=zft w l id:=by
 unfold zft
 congr 1
 refine List.map_congr_left fun t ht => ?_
 rw[zq9,if_neg]
 rintro⟨h1,h2⟩
 rcases h with h|⟨i,hi,e,h3⟩
 ·unfold zlv at h2;rw[h]at h2;simp at h2
 ·obtain⟨j,hj,rfl⟩:=mem_getD.1 ht
  by_cases hij:i=j
  ·subst hij;rw[h3]at h1;simp at h1
  ·have:=hu.ne hi hj hij
   unfold zlv at h2
   simp only[Bool.and_eq_true,decide_eq_true_eq]at h2
   omega
theorem z19 {w:Wld} (hu:Ups w) (l:List Blw) (b:Blw) (id:Int) (hb:zmo w b=true) {i:Nat} (hi:i<w.troops.length) (hid:(w.troops.getD i default).id=b.by_) (hn:l.any (zlv w (w.troops.getD i default))=false) :
 zft w (l ++ [b]) id=zft w l id+(if b.at_=id then (zbe (w.troops.getD i default).kind).load else 0):=by
 have e:w.troops.map (zvy w (l ++ [b]) id)=(w.troops.map (zvy w l id)).set i (if b.at_=id then (zbe (w.troops.getD i default).kind).load else 0):=by
  refine List.ext_getElem (by simp) fun j h1 h2 => ?_
  rw[List.length_map]at h1
  rw[List.getElem_map,List.getElem_set,zq9,←zac _ _ h1]
  by_cases hij:i=j
  ·subst hij
   rw[if_pos rfl,if_pos ⟨hn,by unfold zlv;rw[hb,hid];simp⟩]
  ·have:=hu.ne hi h1 hij
   rw[if_neg hij,if_neg,List.getElem_map,←zac _ _ h1]
   rintro⟨_,h3⟩
   unfold zlv at h3
   simp only[Bool.and_eq_true,decide_eq_true_eq]at h3
   omega
 unfold zft
 rw[e,zug _ _ _ (by simpa using hi)]
 have:(w.troops.map (zvy w l id)).getD i default=0:=by
  rw[zac _ _ (by simpa using hi),List.getElem_map,←zac _ _ hi]
  exact z16 _ _ _ _ hn
 omega
theorem zv0 (w:Wld) (id:Int):zft w [] id=0:=by
 unfold zft z3r
 induction w.troops with
 | nil=>rfl
 | cons a r ih=>rw[List.map_cons,List.sum_cons,ih];rfl
def zou (w:Wld) (l:List Blw):List Int:=w.troops.map fun t=>zft w l t.id
def zbj (w:Wld) (l:List Blw):Int:=if zam w≠0 then zam w else if 200<l.length then 2 else 0
def zhg (w:Wld) (l:List Blw):List Int:=if zbj w l=0 then zou w l else []
def zdr (w:Wld) (l:List Blw) (t:Trp):Trp:={ t with life:=t.life-zft w l t.id }
def zh6 (w:Wld) (l:List Blw):List Trp:=(w.troops.map (zdr w l)).filter fun t=>decide (0<t.life)
def z6c (w:Wld) (l:List Blw):List Int:=((w.troops.map (zdr w l)).filter fun t => !decide (0<t.life)).map (·.id)
def zeo (w:Wld) (l:List Blw):Wld:={ w with troops:=zh6 w l }
end Go.Proofs.YtmjbgbmegbkmhaaGreat
namespace Go.Proofs.YtmjbgbmegbkmhaaGreat
set_option linter.all false
open Go.RowKit
set_option maxRecDepth 100000
set_option maxHeartbeats 400000
theorem zom (a b:Cel):(if (b.x-a.x).natAbs<(b.y-a.y).natAbs then ((b.y-a.y).natAbs:Int)else ((b.x-a.x).natAbs:Int))=(z54 a b:Int):=by
 unfold z54;split<;>omega
theorem zol (a b:Cel) (ha:zed a=true) (hb:zed b=true):Spec Tryz.prog 158 [zgw a,zgw b] [] (.tup [I .i64 (z54 a b:Nat),I .i64 (((b.x-a.x).natAbs+(b.y-a.y).natAbs:Nat):Int),I .i64 0]) []:=by
 have ha1:=ha
 have hb1:=hb
 unfold zed at ha1 hb1
 rw[decide_eq_true_eq]at ha1 hb1
 refine spB Tryz.func158 43 [.tmp 4,.tmp 5,.tmp 6] Tryz.results158 ?_
 try refine xst ?_
 refine caP (zvd a ⟨by omega,by omega⟩ ⟨by omega,by omega⟩) ?_
 try refine xst ?_
 refine gcP (fun hcc=>zvd b ⟨by omega,by omega⟩ ⟨by omega,by omega⟩) ?_
 try refine xst ?_
 refine cI (fun h1 => ?_) fun h1 => ?_
 ·rw[ha,hb]at h1;simp at h1
 ·try refine xst ?_
  refine caP (zum (b.x-a.x) ⟨by omega,by omega⟩ (by omega)) ?_
  try refine xst ?_
  refine caP (zum (b.y-a.y) ⟨by omega,by omega⟩ (by omega)) ?_
  try refine xst ?_
  (first|(refine zar rfl (Wk.of ?_);(try simp(etaStruct := .none)only[push_cast,zab,seval]);first|done|(simp[zom, *];done)|(simp_all[zom];done))|(refine zar rfl ?_;(try simp(etaStruct := .none)only[push_cast,zab,seval]);(try simp[zom, *]);(try exact wkc)))
theorem z4j {f:Fld} {a b:Cel} (hf:zbk f=0) (ha:inF f a=true) (hb:inF f b=true):zpx f a b=(zf2 f a b,0):=by
 unfold zpx;rw[if_neg (by simp[hf]),if_pos (by simp[ha,hb])]
theorem zve {f:Fld} {c:Cel} (hf:zbk f=0) (h:inF f c=true):zed c=true:=by
 have h1:=inF_iff.1 h
 obtain⟨h2,h3,_⟩:=zbc hf
 unfold zed
 rw[decide_eq_true_eq];omega
theorem z6x (w:Wld) (x y:Trp) (hl:ze8 w) (hw:zam w=0) (hx:x∈w.troops) (hy:y∈w.troops):Spec Tryz.prog 131 [zcx w,z7r x,z7r y] [] (B (zjq w x y)) []:=by
 obtain⟨hf,_⟩:=zdd hw
 have ox:=zpm hw hx
 have oy:=zpm hw hy
 have ix:=(ground_iff.1 ox.at_).1
 have iy:=(ground_iff.1 oy.at_).1
 have es:=z4j hf ix iy
 refine spB Tryz.func131 51 [.tmp 6] Tryz.results131 ?_
 try refine xst ?_
 refine caP (zg6 x.kind) ?_
 try refine xst ?_
 refine caP (zol x.c y.c (zve hf ix) (zve hf iy)) ?_
 try refine xst ?_
 refine cI (fun h1 => ?_) fun h1 => ?_
 ·have e:zjq w x y=false:=by
   unfold zjq
   rcases h1 with h|h
   ·simp[h]
   ·simp only[Bool.and_eq_false_iff];exact .inl (.inr (by simpa using h))
  try refine xst ?_
  (first|(refine zar rfl (Wk.of ?_);(try simp(etaStruct := .none)only[push_cast,zab,seval]);first|done|(simp[e, *];done)|(simp_all[e];done))|(refine zar rfl ?_;(try simp(etaStruct := .none)only[push_cast,zab,seval]);(try simp[e, *]);(try exact wkc)))
 ·have e:zjq w x y=zf2 w.f x.c y.c:=by
   unfold zjq
   rw[decide_eq_false h1.1,decide_eq_true h1.2];simp
  try refine xst ?_
  refine caP (yds w.f x.c y.c hl.1) ?_
  try refine xst ?_
  rw[es]
  (first|(refine zar rfl (Wk.of ?_);(try simp(etaStruct := .none)only[push_cast,zab,seval]);first|done|(simp[e, *];done)|(simp_all[e];done))|(refine zar rfl ?_;(try simp(etaStruct := .none)only[push_cast,zab,seval]);(try simp[e, *]);(try exact wkc)))
def IdxM (w:Wld) (k:Nat) (es:List (List Int × Int)):Prop:=(∀i:Int,zlk [i] es=(w.troops.take k).any fun t=>decide (t.id=i))∧∀j,j<k→zc2 [(w.troops.getD j default).id] es=(j:Int)
theorem IdxM.step {w:Wld} (hu:Ups w) {k:Nat} {es:List (List Int × Int)} (h:IdxM w k es) (hk:k<w.troops.length):IdxM w (k+1) (zgh [(w.troops.getD k default).id] (k:Int) es):=by
 refine⟨fun i => ?_,fun j hj => ?_⟩
 ·rw[zlj,zan _ _ hk,List.any_append,h.1 i]
  simp only[List.any_cons,List.any_nil,Bool.or_false,List.cons.injEq,and_true]
  by_cases hi:i=(w.troops.getD k default).id
  ·rw[if_pos hi,decide_eq_true hi.symm,Bool.or_true]
  ·rw[if_neg hi,decide_eq_false (Ne.symm hi),Bool.or_false]
 ·rw[zb5]
  by_cases hjk:j=k
  ·subst hjk;rw[if_pos rfl]
  ·have:=hu j k (by omega) hk
   rw[if_neg (fun h=>by have:=(List.cons.inj h).1;omega)]
   exact h.2 j (by omega)
theorem z1h {k:List Int} {es:List (List Int × Int)} (h:zlk k es=false):zc2 k es=0:=by
 unfold zlk at h;unfold zc2
 cases hm:zck k 0 es with
 | none=>rfl
 | some p=>rw[hm]at h;simp at h
theorem IdxM.get {w:Wld} {es:List (List Int × Int)} (h:IdxM w w.troops.length es) (hpos:0<w.troops.length) (a:Int):∃i:Nat,i<w.troops.length∧zc2 [a] es=(i:Int)∧zlk [a] es=(zda w a).isSome∧((zda w a).isSome=true→(w.troops.getD i default).id=a∧(zda w a).getD z7t=w.troops.getD i default):=by
 have h1:=h.1 a
 rw[List.take_length]at h1
 cases hf:zda w a with
 | none =>
  have e:zlk [a] es=false:=by
   rw[h1,List.any_eq_false]
   intro x hx
   have:=List.find?_eq_none.1 hf x hx
   simpa using this
  exact⟨0,hpos,z1h e,e,fun h=>by simp at h⟩
 | some t =>
  obtain⟨i,hi,e1,e2⟩:=zyn (w:=w) (n:=a) (by rw[hf];rfl)
  refine⟨i,hi,?_,?_,fun _=>⟨e1,by rw[←hf];exact e2⟩⟩
  ·rw[←e1];exact h.2 i hi
  ·rw[h1,List.any_eq_true.2 ⟨w.troops.getD i default,zaz _ _ hi,by simpa using e1⟩];rfl
theorem zls (k:Int):0≤(zbe k).load∧(zbe k).load≤4:=by unfold zbe;split<;>(try split)<;>simp
theorem z6b {w:Wld} {l:List Blw} {harm:List Int} (hl:harm.length=w.troops.length) (h:∀j,j<w.troops.length→harm.getD j default=zft w l (w.troops.getD j default).id):harm=zou w l:=by
 refine List.ext_getElem (by unfold zou;rw[List.length_map];exact hl) fun j h1 h2 => ?_
 have:=h j (by omega)
 rw[zac _ _ h1,zac _ _ (by omega)]at this
 simp only[zou,List.getElem_map];exact this
theorem yh7 {l:List Bool} {i:Nat} (v:Bool) (p:Nat) (hi:i<l.length):(l.set i v).getD p default=if p=i then v else l.getD p default:=by
 by_cases h:p=i
 ·subst h;rw[if_pos rfl,zac _ _ (by simpa using hi)];simp
 ·rw[if_neg h]
  simp only[List.getD_eq_getElem?_getD,List.getElem?_set,if_neg (Ne.symm h)]
theorem ydr {l:List Int} {i:Nat} (v:Int) (p:Nat) (hi:i<l.length):(l.set i v).getD p default=if p=i then v else l.getD p default:=by
 by_cases h:p=i
 ·subst h;rw[if_pos rfl,zac _ _ (by simpa using hi)];simp
 ·rw[if_neg h]
  simp only[List.getD_eq_getElem?_getD,List.getElem?_set,if_neg (Ne.symm h)]
theorem ycb (w:Wld) (l:List Blw) (hl:ze8 w) (hll:l.length≤9223372036854775807) (h:zbj w l≠0):Spec Tryz.prog 88 [zcx w,.c (.sl 2 (l.map zex))] [] (.tup [.c (.sl 1 ((zhg w l).map zad)),I .i64 (zbj w l)]) []:=by
 have e2:zhg w l = []:=by unfold zhg;rw[if_neg h]
 refine spB Tryz.func88 120 [.tmp 4,.tmp 5] Tryz.results88 ?_
 try refine xst ?_
 refine caP (zdw w hl) ?_
 try refine xst ?_
 refine cI (fun h1 => ?_) fun h1 => ?_
 ·have e:zbj w l=zam w:=by unfold zbj;rw[if_pos h1]
  try refine xst ?_
  (first|(refine zar rfl (Wk.of ?_);(try simp(etaStruct := .none)only[push_cast,zab,seval]);first|done|(simp[e,e2, *];done)|(simp_all[e,e2];done))|(refine zar rfl ?_;(try simp(etaStruct := .none)only[push_cast,zab,seval]);(try simp[e,e2, *]);(try exact wkc)))
 ·try refine xst ?_
  refine cI (fun h2 => ?_) fun h2 => ?_
  ·have e:zbj w l=2:=by unfold zbj;rw[if_neg (by simpa using h1),if_pos (by omega)]
   try refine xst ?_
   (first|(refine zar rfl (Wk.of ?_);(try simp(etaStruct := .none)only[push_cast,zab,seval]);first|done|(simp[e,e2, *];done)|(simp_all[e,e2];done))|(refine zar rfl ?_;(try simp(etaStruct := .none)only[push_cast,zab,seval]);(try simp[e,e2, *]);(try exact wkc)))
  ·exact absurd (by unfold zbj;rw[if_neg (by simpa using h1),if_neg (by omega)]) h
end Go.Proofs.YtmjbgbmegbkmhaaGreat
namespace Go.Proofs.YtmjbgbmegbkmhaaGreat
set_option linter.all false
open Go.RowKit
set_option maxRecDepth 100000
set_option maxHeartbeats 1000000
def zbv (x:Nod):List PV := [pI x.c.x,pI x.c.y,pI x.far,pI x.all]
theorem zqn (x:Nod):zbv x = [pI x.c.x,pI x.c.y,pI x.far,pI x.all]:=rfl
abbrev ycv (x:Nod):AV := .agg [I .i64 x.c.x,I .i64 x.c.y,I .i64 x.far,I .i64 x.all]
theorem zql (l:List Nod):Spec Tryz.prog 190 [.c (.sl 4 (l.map zbv))] [] (I .i64 l.length) []:=by
 refine spB Tryz.func190 5 [.tmp 2] Tryz.results190 ?_
 try refine xst ?_
 exact xrz rfl
theorem zoa (l:List Nod) (i j:Nat) (hi:i<l.length) (hj:j<l.length):Spec Tryz.prog 216 [.c (.sl 4 (l.map zbv)),I .i64 i,I .i64 j] [] (B (decide ((l.getD i default).all<(l.getD j default).all))) []:=by
 refine spB Tryz.func216 18 [.tmp 6] Tryz.results216 ?_
 try refine xz3 (gd hi) (gd hj) zqn ?_
 (try(refine⟨by kernel_rfl,?_⟩))
 try refine xz3 (gd hi) (gd hj) zqn ?_
 exact xrz rfl
theorem zn7 (l:List Nod) (i j:Nat) (hi:i<l.length) (hj:j<l.length):Spec Tryz.prog 217 [.own 0,I .i64 i,I .i64 j] [.row 327 4 (l.map zbv)] (.tup []) [.row 327 4 ((zc5 l i j).map zbv)]:=by
 have hj2:j<(l.set i (l.getD j default)).length:=by rw[List.length_set];exact hj
 refine spB Tryz.func217 20 [] Tryz.results217 ?_
 try refine xz3 (gd hi) (gd hj) zqn ?_
 (try(refine⟨by kernel_rfl,?_⟩))
 try refine xz3 (gd hi) (gd hj) zqn ?_
 refine zcc [0] rfl rfl (by decide) ⟨?_,trivial⟩ trivial ?_<;>simp(etaStruct := .none)only[push_cast,zab,seval,zc5,←List.map_set,List.length_map,List.map_set,zbv]
theorem z5c (f:Fld) (b:Cel) (far:List Int)(l:List Nod) (x:Nod) (hl:l.length≤1000000):Spec Tryz.prog 219 [.ptr 0 0 6,.ifc 327 (ycv x)] [.blk 300 [I .i64 f.w,I .i64 f.h,.c (.sl 1 (f.p.map zad)),I .i64 b.x,I .i64 b.y,.own 1,.own 2],.row 3 1 (far.map zad),.row 327 4 (l.map zbv)] (.tup []) [.blk 300 [I .i64 f.w,I .i64 f.h,.c (.sl 1 (f.p.map zad)),I .i64 b.x,I .i64 b.y,.own 1,.own 3],.row 3 1 (far.map zad),.dead,.row 327 4 ((l ++ [x]).map zbv)]:=by
 refine spB Tryz.func219 13 [] Tryz.results219 ?_
 try refine xst ?_
 (try(refine⟨by kernel_rfl,?_⟩))
 try refine xst ?_
 refine zcc [0,1,2,31] rfl rfl (by decide) ⟨?_,?_,?_,?_,trivial⟩ trivial ?_<;>simp(etaStruct := .none)only[push_cast,zab,seval,List.map_append,zbv]
theorem yae (f:Fld) (b:Cel) (far:List Int)(l:List Nod) (n:Nat) (hn:l.length=n+1) (hl:l.length≤1000001):Spec Tryz.prog 218 [.ptr 0 0 6] [.blk 300 [I .i64 f.w,I .i64 f.h,.c (.sl 1 (f.p.map zad)),I .i64 b.x,I .i64 b.y,.own 1,.own 2],.row 3 1 (far.map zad),.row 327 4 (l.map zbv)] (.ifc 327 (ycv (l.getD n default))) [.blk 300 [I .i64 f.w,I .i64 f.h,.c (.sl 1 (f.p.map zad)),I .i64 b.x,I .i64 b.y,.own 1,.own 3],.row 3 1 (far.map zad),.dead,.row 327 4 ((l.take n).map zbv)]:=by
 have hlt:n<l.length:=by omega
 have e1:IntKind.i64.wrap ((l.length:Int)-1)=(n:Int):=by rw[zak _ (by omega) (by omega)];omega
 refine spB Tryz.func218 23 [.tmp 2] Tryz.results218 ?_
 try refine xz3 e1 (gd hlt) zqn ?_
 refine zmg (To.cutC 0 6 2 n 327 4 300 _ (l.map zbv) rfl rfl rfl (by rw[List.length_map];omega)) ?_
 refine zcc [0,1,2,4] rfl rfl (by decide) ⟨?_,?_,?_,?_,trivial⟩ trivial ?_<;>simp(etaStruct := .none)only[push_cast,zab,seval,List.map_take,List.set_cons_zero,List.set_cons_succ]
theorem yd9 (f:Fld) (b:Cel) (far:List Int)(l:List Nod) (j:Nat) (hj:j<l.length) (hl:l.length≤1000001):Spec Tryz.prog 196 [.ifc 325 (.ptr 0 0 6),I .i64 j] [.blk 300 [I .i64 f.w,I .i64 f.h,.c (.sl 1 (f.p.map zad)),I .i64 b.x,I .i64 b.y,.own 1,.own 2],.row 3 1 (far.map zad),.row 327 4 (l.map zbv)] (.tup []) [.blk 300 [I .i64 f.w,I .i64 f.h,.c (.sl 1 (f.p.map zad)),I .i64 b.x,I .i64 b.y,.own 1,.own 2],.row 3 1 (far.map zad),.row 327 4 ((hup Nod.all l j).map zbv)]:=by
 refine spB Tryz.func196 23 [] Tryz.results196 ?_
 try refine xz1 zeg ?_
 refine zaw (fun x:List Nod × Nat=>⟨[(1,I .i64 x.2),(0,.ifc 325 (.ptr 0 0 6))],[(0,.blk 300 [I .i64 f.w,I .i64 f.h,.c (.sl 1 (f.p.map zad)),I .i64 b.x,I .i64 b.y,.own 1,.own 2]),(1,.row 3 1 (far.map zad)),(2,.row 327 4 (x.1.map zbv))],3⟩) (fun x:List Nod × Nat=>x.2<x.1.length∧x.1.length≤1000001∧hup Nod.all x.1 x.2=hup Nod.all l j) (fun x:List Nod × Nat=>x.2) ((l,j)) (⟨hj,hl,rfl⟩) (To.mk [0,1,2] rfl rfl (by decide) ?_ ?_) ?_
 ·simp(etaStruct := .none)only[push_cast,zab,seval]
 ·simp(etaStruct := .none)only[push_cast,zab,seval]
 rintro⟨m,i⟩ ⟨hi,hm,hu⟩
 simp only at hi hm hu
 have lp:par i≤i:=by simp only[par];omega
 have hp:par i<m.length:=by omega
 try refine xz1 zeg ?_
 refine zly (fun hcc=>zoa m i (par i) hi hp) (WkL.refl _) rfl (by intro hc;(try simp(etaStruct := .none)only[push_cast,zab,seval]);(try simp_all)) ?_
 try refine xz1 zeg ?_
 refine cI (fun h1 => ?_) fun h1 => ?_
 ·have e:hup Nod.all m i=m:=by
   rw[hup,if_pos]
   rcases h1 with h|h
   ·exact .inl (by omega)
   ·exact .inr (by omega)
  rw[←hu,e]
  try refine xz1 zeg ?_
  refine zcc [0,1,2] rfl rfl (by decide) ⟨?_,?_,?_,trivial⟩ trivial ?_<;>simp(etaStruct := .none)only[push_cast,zab,seval]
 ·have e:hup Nod.all m i=hup Nod.all (zc5 m (par i) i) (par i):=by rw[hup,if_neg];rintro (h|h)<;>omega
  have lt:par i<i:=by omega
  try refine xz1 zeg ?_
  refine caM [2] (zn7 m (par i) i hp hi) ?_
  try refine xz1 zeg ?_
  refine⟨(zc5 m (par i) i,par i),⟨by rw[zap];exact hp,by rw[zap];exact hm,by rw[←hu,e]⟩,lt,To.mk [0,1,2] rfl rfl (by decide) ?_ ?_⟩
  ·(try(refine xz1 zeg ?_;try exact xtI))
  ·(try(refine xz1 zeg ?_;try exact xtI))
theorem z5g (f:Fld) (b:Cel) (far:List Int)(l:List Nod) (x:Nod) (hl:l.length≤1000000):Spec Tryz.prog 189 [.ifc 325 (.ptr 0 0 6),.ifc 327 (ycv x)] [.blk 300 [I .i64 f.w,I .i64 f.h,.c (.sl 1 (f.p.map zad)),I .i64 b.x,I .i64 b.y,.own 1,.own 2],.row 3 1 (far.map zad),.row 327 4 (l.map zbv)] (.tup []) [.blk 300 [I .i64 f.w,I .i64 f.h,.c (.sl 1 (f.p.map zad)),I .i64 b.x,I .i64 b.y,.own 1,.own 3],.row 3 1 (far.map zad),.dead,.row 327 4 ((zdp Nod.all l x).map zbv)]:=by
 have hlen:(l ++ [x]).length=l.length+1:=by simp
 have e1:IntKind.i64.wrap (((l ++ [x]).length:Int)-1)=(l.length:Int):=by rw[zak _ (by omega) (by omega)];omega
 refine spB Tryz.func189 12 [] Tryz.results189 ?_
 try refine xz1 e1 ?_
 refine caM [0,1,2] (z5c f b far l x hl) ?_
 try refine xz1 e1 ?_
 refine zcl (zql (l ++ [x])) (WkL.refl _) rfl ?_
 try refine xz1 e1 ?_
 refine caM [0,1,3] (yd9 f b far (l ++ [x]) l.length (by omega) (by omega)) ?_
 try refine xz1 e1 ?_
 refine zcc [0,1,2,3] rfl rfl (by decide) ⟨?_,?_,?_,?_,trivial⟩ trivial ?_<;>simp(etaStruct := .none)only[push_cast,zab,seval,zdp]
theorem yao (f:Fld) (b:Cel) (far:List Int)(l:List Nod) (n:Nat) (hn:n≤l.length) (hl:l.length≤1000001):Spec Tryz.prog 197 [.ifc 325 (.ptr 0 0 6),I .i64 0,I .i64 n] [.blk 300 [I .i64 f.w,I .i64 f.h,.c (.sl 1 (f.p.map zad)),I .i64 b.x,I .i64 b.y,.own 1,.own 2],.row 3 1 (far.map zad),.row 327 4 (l.map zbv)] .undef [.blk 300 [I .i64 f.w,I .i64 f.h,.c (.sl 1 (f.p.map zad)),I .i64 b.x,I .i64 b.y,.own 1,.own 2],.row 3 1 (far.map zad),.row 327 4 ((hdn Nod.all l 0 n).map zbv)]:=by
 refine spB Tryz.func197 48 [.tmp 6] Tryz.results197 ?_
 try refine xst ?_
 refine zaw (fun x:List Nod × Nat=>⟨[(7,I .i64 x.2),(2,I .i64 n),(1,I .i64 0),(0,.ifc 325 (.ptr 0 0 6))],[(0,.blk 300 [I .i64 f.w,I .i64 f.h,.c (.sl 1 (f.p.map zad)),I .i64 b.x,I .i64 b.y,.own 1,.own 2]),(1,.row 3 1 (far.map zad)),(2,.row 327 4 (x.1.map zbv))],3⟩) (fun x:List Nod × Nat=>x.2≤n∧n≤x.1.length∧x.1.length≤1000001∧hdn Nod.all x.1 x.2 n=hdn Nod.all l 0 n) (fun x:List Nod × Nat=>n-x.2) ((l,0)) (⟨Nat.zero_le _,hn,hl,rfl⟩) (To.mk [0,1,2] rfl rfl (by decide) ?_ ?_) ?_
 ·simp(etaStruct := .none)only[push_cast,zab,seval]
 ·simp(etaStruct := .none)only[push_cast,zab,seval]
 rintro⟨m,i⟩ ⟨hi,hm,hm2,hu⟩
 simp only at hi hm hm2 hu
 obtain⟨a,ha⟩:∃a:Nat,a=2*i+1:=⟨_,rfl⟩
 obtain⟨b,hb⟩:∃b:Nat,b=2*i+2:=⟨_,rfl⟩
 have e1:IntKind.i64.wrap (IntKind.i64.wrap (2*(i:Int))+1)=(a:Int):=by rw[zak (2*_) (by omega) (by omega),zak _ (by omega) (by omega)];omega
 have e2:IntKind.i64.wrap ((a:Int)+1)=(b:Int):=by rw[zak _ (by omega) (by omega)];omega
 simp(etaStruct := .none)only[push_cast,zab,seval,e1,e2]
 try refine xst ?_
 refine cI (fun h1 => ?_) fun h1 => ?_
 ·have e:hdn Nod.all m i n=m:=by rw[hdn,if_pos];exact .inl (by omega)
  rw[←hu,e]
  try refine xst ?_
  refine zcc [0,1,2] rfl rfl (by decide) ⟨?_,?_,?_,trivial⟩ trivial (Wk.undef _)<;>simp(etaStruct := .none)only[push_cast,zab,seval]
 ·try refine xz2 e1 e2 ?_
  refine zly (fun hcc=>zoa m b a (by simp only[decide_eq_true_eq]at hcc;omega) (by omega)) (WkL.refl _) rfl (by intro hc;(try simp(etaStruct := .none)only[push_cast,zab,seval]);(try simp_all)) ?_
  try refine xz2 e1 e2 ?_
  refine cI (fun h2 => ?_) fun h2 => ?_
  ·have ek:kid Nod.all m i n=b:=by unfold kid;rw[←ha,←hb,if_pos ⟨by omega,h2.2⟩]
   try refine xz2 e1 e2 ?_
   refine zcl (zoa m b i (by omega) (by omega)) (WkL.refl _) rfl ?_
   try refine xz2 e1 e2 ?_
   refine cI (fun h3 => ?_) fun h3 => ?_
   ·have e:hdn Nod.all m i n=m:=by rw[hdn,if_pos];rw[ek];exact .inr (by omega)
    rw[←hu,e]
    try refine xz2 e1 e2 ?_
    refine zcc [0,1,2] rfl rfl (by decide) ⟨?_,?_,?_,trivial⟩ trivial (Wk.undef _)<;>simp(etaStruct := .none)only[push_cast,zab,seval]
   ·have e:hdn Nod.all m i n=hdn Nod.all (zc5 m i b) b n:=by rw[hdn,if_neg,ek];rw[ek];rintro (h|h)<;>omega
    try refine xz2 e1 e2 ?_
    refine caM [2] (zn7 m i b (by omega) (by omega)) ?_
    try refine xz2 e1 e2 ?_
    refine⟨(zc5 m i b,b),⟨by simp only;omega,by rw[zap];exact hm,by rw[zap];exact hm2,by rw[←hu,e]⟩,by simp only;omega,To.mk [0,1,2] rfl rfl (by decide) ?_ ?_⟩
    ·(try(refine xz2 e1 e2 ?_;try exact xtI))
    ·(try(refine xz2 e1 e2 ?_;try exact xtI))
  ·have ek:kid Nod.all m i n=a:=by unfold kid;rw[←ha,←hb,if_neg (fun h=>by have:=h.1;have:=h.2;omega)]
   try refine xz2 e1 e2 ?_
   refine zcl (zoa m a i (by omega) (by omega)) (WkL.refl _) rfl ?_
   try refine xz2 e1 e2 ?_
   refine cI (fun h4 => ?_) fun h4 => ?_
   ·have e:hdn Nod.all m i n=m:=by rw[hdn,if_pos];rw[ek];exact .inr (by omega)
    rw[←hu,e]
    try refine xz2 e1 e2 ?_
    refine zcc [0,1,2] rfl rfl (by decide) ⟨?_,?_,?_,trivial⟩ trivial (Wk.undef _)<;>simp(etaStruct := .none)only[push_cast,zab,seval]
   ·have e:hdn Nod.all m i n=hdn Nod.all (zc5 m i a) a n:=by rw[hdn,if_neg,ek];rw[ek];rintro (h|h)<;>omega
    try refine xz2 e1 e2 ?_
    refine caM [2] (zn7 m i a (by omega) (by omega)) ?_
    try refine xz2 e1 e2 ?_
    refine⟨(zc5 m i a,a),⟨by simp only;omega,by rw[zap];exact hm,by rw[zap];exact hm2,by rw[←hu,e]⟩,by simp only;omega,To.mk [0,1,2] rfl rfl (by decide) ?_ ?_⟩
    ·(try(refine xz2 e1 e2 ?_;try exact xtI))
    ·(try(refine xz2 e1 e2 ?_;try exact xtI))
theorem yam (f:Fld) (b:Cel) (far:List Int)(l:List Nod) (h0:0<l.length) (hl:l.length≤1000001):Spec Tryz.prog 191 [.ifc 325 (.ptr 0 0 6)] [.blk 300 [I .i64 f.w,I .i64 f.h,.c (.sl 1 (f.p.map zad)),I .i64 b.x,I .i64 b.y,.own 1,.own 2],.row 3 1 (far.map zad),.row 327 4 (l.map zbv)] (.ifc 327 (ycv (l.getD 0 default))) [.blk 300 [I .i64 f.w,I .i64 f.h,.c (.sl 1 (f.p.map zad)),I .i64 b.x,I .i64 b.y,.own 1,.own 3],.row 3 1 (far.map zad),.dead,.row 327 4 ((zfp Nod.all l).map zbv)]:=by
 obtain⟨n,hn⟩:∃n,l.length=n+1:=⟨l.length-1,by omega⟩
 have e1:IntKind.i64.wrap ((l.length:Int)-1)=(n:Int):=by rw[zak _ (by omega) (by omega)];omega
 have e2:=zq8 Nod.all l h0
 have e3:zfp Nod.all l=(hdn Nod.all (zc5 l 0 n) 0 n).take n:=by unfold zfp;rw[hn];rfl
 rw[hn,Nat.add_sub_cancel]at e2
 rw[←e2,e3]
 refine spB Tryz.func191 15 [.tmp 2] Tryz.results191 ?_
 try refine xz1 e1 ?_
 refine zcl (zql l) (WkL.refl _) rfl ?_
 try refine xz1 e1 ?_
 refine caM [2] (zn7 l 0 n h0 (by omega)) ?_
 try refine xz1 e1 ?_
 refine caM [0,1,2] (yao f b far (zc5 l 0 n) n (by rw[zap];omega) (by rw[zap];omega)) ?_
 try refine xz1 e1 ?_
 refine caM [0,1,2] (yae f b far (hdn Nod.all (zc5 l 0 n) 0 n) n (by rw[zot,zap];exact hn) (by rw[zot,zap];exact hl)) ?_
 try refine xz1 e1 ?_
 refine zcc [0,1,2,3] rfl rfl (by decide) ⟨?_,?_,?_,?_,trivial⟩ trivial ?_<;>simp(etaStruct := .none)only[push_cast,zab,seval]
theorem zfx (n:Nat) (h:n<18446744073709551616):IntKind.u64.wrap (n:Int)=n:=by rw[IntKind.wrap_u64];omega
theorem zg5 (n:Nat) (h:n<4294967296):bits .and .u64 (n:Int) 4294967295=(n:Int):=by
 show IntKind.u64.wrap ((BitVec.ofInt 64 (n:Int) &&& BitVec.ofInt 64 ((4294967295:Nat):Int)).toNat:Nat)=_
 rw[BitVec.toNat_and,BitVec.ofInt_natCast,BitVec.ofInt_natCast,BitVec.toNat_ofNat,BitVec.toNat_ofNat,Nat.mod_eq_of_lt (show n<2 ^ 64 by omega),Nat.mod_eq_of_lt (show 4294967295<2 ^ 64 by decide)]
 have:n &&& 4294967295=n:=by rw[show (4294967295:Nat)=2 ^ 32-1 from rfl,Nat.and_two_pow_sub_one_eq_mod,Nat.mod_eq_of_lt (by omega)]
 rw[this]
 exact zfx n (by omega)
theorem yaq (n:Nat) (h:n≤1600):Spec Tryz.prog 195 [.c (.v (.int .u64 1)),.c (.v (.int .u64 n))] [] (.tup [.c (.v (.int .u64 0)),.c (.v (.int .u64 n))]) []:=by
 have a1:=zg5 n (by omega)
 have a2:bits .and .u64 1 4294967295=1:=zg5 1 (by decide)
 have a3:bits .and .u64 0 4294967295=0:=zg5 0 (by decide)
 have w1:∀x:Int,0≤x→x≤1600→IntKind.u64.wrap x=x:=fun x h1 h2=>by
  obtain⟨k,rfl⟩:=Int.eq_ofNat_of_zero_le h1
  exact zfx k (by omega)
 have d1:(n:Int).fdiv 4294967296=0:=by rw[Int.fdiv_eq_ediv_of_nonneg _ (by decide)];omega
 have d2:(1:Int).fdiv 4294967296=0:=rfl
 have d3:(0:Int).fdiv 4294967296=0:=rfl
 have e1:IntKind.u64.wrap (n:Int)=n:=w1 _ (by omega) (by omega)
 have e0:IntKind.u64.wrap 0=0:=rfl
 have hm:(2:Int) ^ min 32 IntKind.u64.bits=4294967296:=rfl
 refine spB Tryz.func195 51 [.tmp 4,.tmp 5] Tryz.results195 ?_
 iterate 2(try simp(etaStruct := .none)only[push_cast,zab,seval,hm,a1,a2,a3,d1,d2,d3,e1,e0,Int.mul_zero,Int.zero_mul,Int.one_mul,Int.add_zero,Int.zero_add];try refine xsu ?_)
 exact xrz rfl
theorem yii (n:Nat) (h:n≤1600):Spec Tryz.prog 188 [.c (.v (.int .u64 1)),.c (.v (.int .u64 n))] [] (.tup [.c (.v (.int .u64 0)),.c (.v (.int .u64 n))]) []:=by
 refine spB Tryz.func188 30 [.tmp 4,.tmp 5] Tryz.results188 ?_
 try refine xst ?_
 refine cI (fun h1 => ?_) fun h1 => ?_
 ·exact absurd h1 (by decide)
 ·try refine xst ?_
  refine caP (yaq n h) ?_
  try refine xst ?_
  exact xrz rfl
def rp (k n:Nat):List Int:=List.replicate k (-1)++List.replicate (n-k) 0
theorem yd2 {k n:Nat} (h:k≤n):(rp k n).length=n:=by unfold rp;simp;omega
theorem z0a {k n:Nat} (h:k≤n):(rp k n).take k=List.replicate k (-1):=by unfold rp;rw[List.take_append_of_le_length (by simp)];simp
theorem zmu {α β : Type} (f : α → β) (l:List α) (o:Nat) (m:List α):zaj (l.map f) o (m.map f)=(zaj l o m).map f:=by
 unfold zaj
 rw[List.map_append,List.map_append,List.map_take,List.map_drop,List.length_map]
theorem z9x {k n:Nat} (h:k≤n):zaj (rp k n) k ((List.replicate k (-1)).take (n-k))=rp (k+min k (n-k)) n:=by
 rw[List.take_replicate]
 unfold zaj
 rw[z0a h,List.length_replicate]
 unfold rp
 rw[List.drop_append,List.length_replicate,List.drop_of_length_le (by simp),List.nil_append,show k+min (n-k) k-k=min (n-k) k from by omega,List.drop_replicate,←List.append_assoc,List.replicate_append_replicate,Nat.min_comm (n-k) k,show n-k-min k (n-k)=n-(k+min k (n-k))from by omega]
theorem z4u {n:Nat} (h:1≤n):zaj (List.replicate n (0:Int)) 0 ([(-1:Int)].take n)=rp 1 n:=by
 obtain⟨m,rfl⟩:∃m,n=m+1:=⟨n-1,by omega⟩
 unfold zaj rp
 simp
theorem zut (n:Nat) (hpos:1≤n) (h:n≤1600):Spec Tryz.prog 178 [.own 0,I .i64 n] [.row 3 1 [[pI (-1)]]] (.own 1) [.row 3 1 [[pI (-1)]],.row 3 1 ((List.replicate n (-1:Int)).map zad)]:=by
 have e1:IntKind.u64.wrap (n:Int)=n:=zfx n (by omega)
 have e2:IntKind.u64.wrap 1=1:=rfl
 have e3:IntKind.i64.wrap (n:Int)=n:=zak _ (by omega) (by omega)
 have hf:=z4u hpos
 have hf2:zaj (List.replicate n [pI 0]) 0 (([[pI (-1)]]:List (List PV)).take n)=(rp 1 n).map zad:=by rw[←hf,←zmu];simp[zad]
 have hmn:min 1 n=1:=by omega
 refine spB Tryz.func178 48 [.tmp 4] Tryz.results178 ?_
 try refine xz3 e1 e2 e3 ?_
 refine cI (fun h1 => ?_) fun h1 => ?_
 ·exfalso;omega
 ·try refine xz3 e1 e2 e3 ?_
  refine caP (yii n h) ?_
  try refine xz3 e1 e2 e3 ?_
  refine cI (fun h2 => ?_) fun h2 => ?_
  ·exfalso;omega
  ·try refine xz3 e1 e2 e3 ?_
   refine zaw (fun k:Nat=>⟨[(8,I .i64 k),(7,.own 1)],[(0,.row 3 1 [[pI (-1)]]),(1,.row 3 1 ((rp k n).map zad))],2⟩) (fun k:Nat=>1≤k∧k≤n) (fun k:Nat=>n-k) (1) (⟨Nat.le_refl _,hpos⟩) (To.mk [0,1] rfl rfl (by decide) ?_ ?_) ?_
   ·simp(etaStruct := .none)only[push_cast,zab,seval,List.length_replicate]
    simpa only[zaj,List.take_zero,List.nil_append,Nat.zero_add]using hf2
   ·simp(etaStruct := .none)only[push_cast,zab,seval,List.length_replicate,hmn]
   rintro k ⟨hk1,hk⟩
   have hrl:=yd2 hk
   have hrc:=z9x hk
   have htk:((rp k n).map zad).take k=(List.replicate k (-1:Int)).map zad:=by rw[←List.map_take,z0a hk]
   have hs2:zaj ((rp k n).map zad) k ((((rp k n).map zad).take k).take (n-k))=(rp (k+min k (n-k)) n).map zad:=by rw[htk,←List.map_take,zmu,hrc]
   have hl2:(((rp k n).map zad).take k).length=k:=by rw[List.length_take,List.length_map,hrl];omega
   unfold zaj at hs2
   try refine xz3 e1 e2 e3 ?_
   refine cI (fun h3 => ?_) fun h3 => ?_
   ·skip
    try refine xz3 e1 e2 e3 ?_
    (try(refine⟨by kernel_rfl,?_⟩))
    try refine xz3 e1 e2 e3 ?_
    refine⟨k+min k (n-k),⟨by omega,by omega⟩,by omega,To.mk [0,1] rfl rfl (by decide) ?_ ?_⟩
    ·try refine xz1 hrl ?_
     exact hs2
    ·(try(refine xz2 hl2 hrl ?_;try exact xtI))
   ·obtain rfl:k=n:=by omega
    have hrn:rp k k=List.replicate k (-1):=by unfold rp;simp
    try refine xz3 e1 e2 e3 ?_
    refine zcc [0,1] rfl rfl (by decide) ⟨?_,?_,trivial⟩ trivial ?_<;>simp(etaStruct := .none)only[push_cast,zab,seval,hrn]
abbrev yh6 (f:Fld) (b:Cel) (far:List Int) (q:List Nod):List PV := [pI f.w,pI f.h,.sl 1 (f.p.map zad),pI b.x,pI b.y,.sl 1 (far.map zad),.sl 4 (q.map zbv)]
theorem zef (f:Fld) (b:Cel) (far:List Int) (q:List Nod) (c:Cel) (hf:zbk f=0) (hc:inF f c=true):Spec Tryz.prog 163 [.fel 7 [yh6 f b far q] 0 0,zgw c] [] (I .i64 (zal f c)) []:=by
 obtain⟨i1,i2,i3,i4,i5⟩:=za5 hf hc
 have hci:=inF_iff.1 hc
 have e1:IntKind.i64.wrap (IntKind.i64.wrap (c.y*f.w)+c.x)=(zal f c:Int):=by rw[zak (c.y*f.w) (by omega) (by omega),zak _ (by omega) (by omega)];unfold zal;omega
 refine spB Tryz.func163 16 [.tmp 4] Tryz.results163 ?_
 try refine xz1 e1 ?_
 (try(refine⟨by kernel_rfl,?_⟩))
 try refine xz1 e1 ?_
 exact xrz rfl
def zct (f:Fld) (c:Cel):Int × Bool:=if inF f c then (if zah f c=1 then (0,false)else (kV (zah f c),true))else (0,false)
theorem zss (f:Fld) (b:Cel) (far:List Int) (q:List Nod) (c:Cel) (hf:zbk f=0):Spec Tryz.prog 161 [.fel 7 [yh6 f b far q] 0 0,zgw c] [] (.tup [I .i64 (zct f c).1,B (zct f c).2]) []:=by
 have hfo:=zbc hf
 have hav:atV f c=if inF f c then (zah f c,0)else (0,7):=by unfold atV;rw[if_neg (by simp[hf])]
 have hm:f.w*f.h≤40*40:=Int.mul_le_mul hfo.1.2 hfo.2.1.2 (by omega) (by omega)
 refine spB Tryz.func161 28 [.tmp 4,.tmp 5] Tryz.results161 ?_
 try refine xst ?_
 refine caP (zyv f c (by omega)) ?_
 rw[hav]
 try refine xst ?_
 (try(refine⟨by kernel_rfl,?_⟩))
 try refine xst ?_
 refine cI (fun h1 => ?_) fun h1 => ?_
 ·have hin:inF f c=false:=by
   cases hc:inF f c with
   | false=>rfl
   | true=>rw[hc]at h1;simp at h1
  have e:zct f c=(0,false):=by unfold zct;rw[if_neg (by simp[hin])]
  rw[e]
  try refine xst ?_
  exact xrz rfl
 ·have hin:inF f c=true:=by
   cases hc:inF f c with
   | true=>rfl
   | false=>rw[hc]at h1;simp at h1
  rw[if_pos hin]
  try refine xst ?_
  refine caP (yfr (zah f c)) ?_
  have hpl:=hfo.2.2.2 _ (zaz f.p _ (show (c.y*f.w+c.x).toNat<f.p.length by have:=za5 hf hin;omega))
  have hcv:=z6y (q:=zah f c) hpl
  have e:zct f c=if zah f c=1 then (0,false)else (kV (zah f c),true):=by unfold zct;rw[if_pos hin]
  have e3:(zct f c).1=(zev (zah f c)).1∧(zct f c).2=decide ((zev (zah f c)).2=0):=by
   rw[e]
   rcases hcv with h|h
   ·rw[if_pos h.1,h.2];exact⟨rfl,rfl⟩
   ·rw[if_neg h.1,h.2];exact⟨rfl,rfl⟩
  rw[e3.1,e3.2]
  try refine xst ?_
  exact xrz rfl
theorem zu1 (c:Cel) (hx : -1000000≤c.x∧c.x≤1000000) (hy : -1000000≤c.y∧c.y≤1000000):Spec Tryz.prog 162 [zgw c] [] (.agg [I .i64 c.x,I .i64 (c.y-1),I .i64 (c.x-1),I .i64 c.y,I .i64 (c.x+1),I .i64 c.y,I .i64 c.x,I .i64 (c.y+1)]) []:=by
 refine spB Tryz.func162 28 [.cell 2 295] Tryz.results162 ?_
 try refine xst ?_
 exact xrz rfl
def zbf (b c:Cel):Int:=2*(((b.x-c.x).natAbs+(b.y-c.y).natAbs:Nat):Int)
end Go.Proofs.YtmjbgbmegbkmhaaGreat
namespace Go.Proofs.YtmjbgbmegbkmhaaGreat
set_option linter.all false
open Go.RowKit
set_option maxRecDepth 100000
def lk (f:Fld) (b:Cel) (far:List Int) (d:Int) (q:List Nod) (c:Cel):List Nod:=if (zct f c).2=true∧far.getD (zal f c) default<0 then zdp Nod.all q ⟨c,d+(zct f c).1,d+(zct f c).1+zbf b c⟩else q
def zet (f:Fld) (b:Cel) (far:List Int) (d:Int) (q:List Nod) (l:List Cel):List Nod:=l.foldl (lk f b far d) q
theorem zna (f:Fld) (b:Cel) (far:List Int) (d:Int) (q:List Nod) (l:List Cel) (c:Cel):zet f b far d q (l ++ [c])=lk f b far d (zet f b far d q l) c:=by unfold zet;rw[List.foldl_append];rfl
theorem yez (f:Fld) (b:Cel) (far:List Int) (d:Int) (q:List Nod) (c:Cel):(lk f b far d q c).length≤q.length+1:=by
 unfold lk;split
 ·rw[zlu];exact Nat.le_refl _
 ·omega
theorem zlo (f:Fld) (b:Cel) (far:List Int) (d:Int) (l:List Cel):∀q:List Nod,(zet f b far d q l).length≤q.length+l.length:=by
 induction l with
 | nil=>intro q;exact Nat.le_refl _
 | cons c r ih=>intro q;have h1:=ih (lk f b far d q c);have h2:=yez f b far d q c;simp only[zet,List.foldl_cons,List.length_cons]at *;omega
def goB (f:Fld) (b:Cel) (far:List Int) (q:List Nod):Prop:=0<q.length∧(far.getD (zal f b) default<0∨(q.getD 0 default).all≤far.getD (zal f b) default)
def zk2 (f:Fld) (b:Cel):Nat→List Int→List Nod→List Int × List Nod
 | 0,far,q=>(far,q)
 | N+1,far,q=>if 0<q.length∧(far.getD (zal f b) default<0∨(q.getD 0 default).all≤far.getD (zal f b) default)then
  (if 0≤far.getD (zal f (q.getD 0 default).c) default then zk2 f b N far (zfp Nod.all q)
   else zk2 f b N (far.set (zal f (q.getD 0 default).c) (q.getD 0 default).far) (zet f b (far.set (zal f (q.getD 0 default).c) (q.getD 0 default).far) (q.getD 0 default).far (zfp Nod.all q) (zaf (q.getD 0 default).c)))
  else (far,q)
section
variable {f : Fld} {W H : Nat}
theorem ztq (hw:f.w=(W:Int)) (hh:f.h=(H:Int)) (hW:0<W) {p:Nat} (hp:p<W*H):inF f (zdv W p)=true∧zal f (zdv W p)=p:=by
 have h1:=Nat.div_add_mod p W
 have h2:=Nat.mod_lt p hW
 have h3:p/W<H:=by rw[Nat.div_lt_iff_lt_mul hW,Nat.mul_comm];exact hp
 unfold zdv zal
 refine⟨inF_iff.2 ⟨⟨Int.natCast_nonneg _,by simp only;rw[hw];exact Int.ofNat_lt.2 h2⟩,Int.natCast_nonneg _,by simp only;rw[hh];exact Int.ofNat_lt.2 h3⟩,?_⟩
 simp only
 rw[hw,show ((p/W:Nat):Int)*(W:Int)=((W*(p/W):Nat):Int)from by rw[Nat.mul_comm,Int.natCast_mul]]
 omega
theorem zbi (hw:f.w=(W:Int)) (hh:f.h=(H:Int)) (hW:0<W) (hf:zbk f=0) {c:Cel} (hc:inF f c=true):c=zdv W (zal f c)∧zal f c<f.p.length:=by
 obtain⟨i1,i2,i3,i4,i5⟩:=za5 hf hc
 have hci:=inF_iff.1 hc
 obtain⟨x,hx⟩:∃x:Nat,c.x=(x:Int):=Int.eq_ofNat_of_zero_le hci.1.1
 obtain⟨y,hy⟩:∃y:Nat,c.y=(y:Int):=Int.eq_ofNat_of_zero_le hci.2.1
 have e:zal f c=W*y+x:=by
  unfold zal
  rw[hx,hy,hw,show (y:Int)*(W:Int)=((W*y:Nat):Int)from by rw[Nat.mul_comm,Int.natCast_mul]]
  omega
 have hxW:x<W:=by omega
 refine⟨?_,by unfold zal;omega⟩
 rw[e]
 unfold zdv
 rw[Nat.mul_add_mod,Nat.mod_eq_of_lt hxW,Nat.mul_add_div hW,Nat.div_eq_of_lt hxW,Nat.add_zero,←hx,←hy]
theorem zor (hw:f.w=(W:Int)) (hh:f.h=(H:Int)) (hW:0<W) (b:Cel):ygb W (W*H) fun p=>zbf b (zdv W p):=by
 intro p n hp hn ha
 have key:∀c c':Cel,(c.x=c'.x∧(c.y=c'.y+1∨c'.y=c.y+1))∨(c.y=c'.y∧(c.x=c'.x+1∨c'.x=c.x+1))→zbf b c≤zbf b c'+2:=by
  intro c c' h;unfold zbf;omega
 refine key _ _ ?_
 have h1:=Nat.div_add_mod p W
 have h2:=Nat.div_add_mod n W
 have m1:=Nat.mod_lt p hW
 have m2:=Nat.mod_lt n hW
 unfold zdv
 simp only
 have up:∀m:Nat,(m+W) % W=m % W∧(m+W)/W=m/W+1:=fun m=>⟨Nat.add_mod_right m W,Nat.add_div_right m hW⟩
 have side:∀m:Nat,0<(m+1) % W→(m+1) % W=m % W+1∧(m+1)/W=m/W:=fun m h=>by
  have hs:=zuh hW m
  have hl:=Nat.mod_lt m hW
  have hd:=Nat.div_add_mod m W
  split at hs
  ·omega
  ·rename_i hne
   refine⟨hs,?_⟩
   have hlt:m % W+1<W:=by omega
   have:m+1=W*(m/W)+(m % W+1):=by rw[←Nat.add_assoc,Nat.div_add_mod]
   rw[this,Nat.mul_add_div hW,Nat.div_eq_of_lt hlt,Nat.add_zero]
 rcases ha with h|⟨h,h'⟩|⟨h,h'⟩|h
 ·obtain⟨u1,u2⟩:=up n;rw[h]at u1 u2;exact .inl ⟨by omega,.inl (by omega)⟩
 ·obtain⟨u1,u2⟩:=side n (by rw[h];exact h');rw[h]at u1 u2;exact .inr ⟨by omega,.inl (by omega)⟩
 ·obtain⟨u1,u2⟩:=side p (by rw[h];exact h');rw[h]at u1 u2;exact .inr ⟨by omega,.inr (by omega)⟩
 ·obtain⟨u1,u2⟩:=up p;rw[h]at u1 u2;exact .inl ⟨by omega,.inr (by omega)⟩
theorem z1m (hw:f.w=(W:Int)) (hh:f.h=(H:Int)) (hW:0<W) (hf:zbk f=0) (hL:f.p.length=W*H) (b:Cel) {a p:Nat} {far:List Int} {q:List Nod} {done:Nat→Nat→Prop} {d:Int} (h:As W f.p a (fun n=>zbf b (zdv W n)) far q done) (hp:p<f.p.length) (hd:far.getD p default=d) (h0:0≤d)
 (top:∀m,m<f.p.length→0≤far.getD m default→far.getD m default+zbf b (zdv W m)≤d+zbf b (zdv W p)) (hb:d+3≤3*zil zew far) (c:Cel) (hc:inF f c=true→Adj W p (zal f c)) :
 As W f.p a (fun n=>zbf b (zdv W n)) far (lk f b far d q c) fun x n=>done x n∨(x=p∧inF f c=true∧n=zal f c):=by
 have hcons:=zor hw hh hW b
 rw[←hL]at hcons
 cases hin:inF f c with
 | false =>
  have e:lk f b far d q c=q:=by unfold lk zct;rw[if_neg (by rw[hin];simp)]
  rw[e]
  refine⟨h.len,h.low,h.heap,h.itm,h.src,h.why,h.top,fun u v h1 h2 h3 h4=>h.all u v h1 h2 h3 ?_⟩
  rcases h4 with h4|h4
  ·exact h4
  ·exact absurd h4.2.1 (by decide)
 | true =>
  obtain⟨e1,e2⟩:=zbi hw hh hW hf hin
  have epl:zah f c=f.p.getD (zal f c) default:=rfl
  refine h.look hcons (n:=zal f c) e2 hp (hc hin) (by rw[hd];exact h0) (fun m h1 h2=>by rw[hd];exact top m h1 h2) (by rw[hd];exact hb) _ (fun x y h4=>by
   rcases h4 with h4|h4
   ·exact .inl h4
   ·exact .inr ⟨h4.1,h4.2.2⟩) ?_
  unfold lk zct
  rw[if_pos hin,epl,hd]
  by_cases hr:f.p.getD (zal f c) default=1
  ·rw[if_pos hr,if_neg (by simp)]
   exact .inl ⟨.inl hr,rfl⟩
  ·rw[if_neg hr]
   by_cases hn:far.getD (zal f c) default<0
   ·rw[if_pos ⟨rfl,hn⟩,←e1]
    exact .inr ⟨hr,hn,rfl⟩
   ·rw[if_neg (fun h=>hn h.2)]
    exact .inl ⟨.inr (by omega),rfl⟩
theorem zkv (hw:f.w=(W:Int)) (hh:f.h=(H:Int)) (hW:0<W) {p:Nat} (hp:p<W*H) {c:Cel} (hc:c∈zaf (zdv W p)) (hin:inF f c=true):Adj W p (zal f c):=by
 obtain⟨bm,_⟩:=zno f hw hh hW hp
 have:zal f c∈zl8 W H p:=by rw[←bm];exact List.mem_map_of_mem (List.mem_filter.2 ⟨hc,hin⟩)
 exact((zm8 hW hp).1 this).2
theorem zru (hw:f.w=(W:Int)) (hh:f.h=(H:Int)) (hW:0<W) {p n:Nat} (hp:p<W*H) (hn:n<W*H) (ha:Adj W p n):∃c∈zaf (zdv W p),inF f c=true∧n=zal f c:=by
 obtain⟨bm,_⟩:=zno f hw hh hW hp
 have:=(zm8 hW hp).2 ⟨hn,ha⟩
 rw[←bm]at this
 obtain⟨c,hc,e⟩:=List.mem_map.1 this
 obtain⟨h1,h2⟩:=List.mem_filter.1 hc
 exact⟨c,h1,h2,e.symm⟩
def yfo (f:Fld) (W p k:Nat) (x n:Nat):Prop:=x≠p∨∃c∈(zaf (zdv W p)).take k,inF f c=true∧n=zal f c
theorem z8b (hw:f.w=(W:Int)) (hh:f.h=(H:Int)) (hW:0<W) (hf:zbk f=0) (hL:f.p.length=W*H) (b:Cel) {a p:Nat} {far:List Int} {q:List Nod} {d:Int} (h:As W f.p a (fun n=>zbf b (zdv W n)) far q (fun x _=>x≠p)) (hp:p<f.p.length) (hd:far.getD p default=d) (h0:0≤d)
 (top:∀m,m<f.p.length→0≤far.getD m default→far.getD m default+zbf b (zdv W m)≤d+zbf b (zdv W p)) (hb:d+3≤3*zil zew far):∀k,k≤4→As W f.p a (fun n=>zbf b (zdv W n)) far (zet f b far d q ((zaf (zdv W p)).take k)) (yfo f W p k):=by
 intro k
 induction k with
 | zero =>
  intro _
  refine⟨h.len,h.low,h.heap,h.itm,h.src,h.why,h.top,fun u v h1 h2 h3 h4=>h.all u v h1 h2 h3 ?_⟩
  rcases h4 with h4|⟨c,hc,_⟩
  ·exact h4
  ·simp at hc
 | succ k ih =>
  intro hk
  have hlt:k<(zaf (zdv W p)).length:=by rw[show (zaf (zdv W p)).length=4 from rfl];omega
  rw[zan _ _ hlt,zna]
  have:=z1m hw hh hW hf hL b (ih (by omega)) hp hd h0 top hb ((zaf (zdv W p)).getD k default) (fun hin=>zkv hw hh hW (by omega) (zaz _ _ hlt) hin)
  refine⟨this.len,this.low,this.heap,this.itm,this.src,this.why,this.top,fun u v h1 h2 h3 h4=>this.all u v h1 h2 h3 ?_⟩
  rcases h4 with h4|⟨c,hc,h5,h6⟩
  ·exact .inl (.inl h4)
  ·rw[zan _ _ hlt,List.mem_append,List.mem_singleton]at hc
   by_cases hu:u=p
   ·rcases hc with hc|hc
    ·exact .inl (.inr ⟨c,hc,h5,h6⟩)
    ·subst hc;exact .inr ⟨hu,h5,h6⟩
   ·exact .inl (.inl hu)
theorem zvq (hw:f.w=(W:Int)) (hh:f.h=(H:Int)) (hW:0<W) (hL:f.p.length=W*H) {a p:Nat} {hf2:Nat→Int} {far:List Int} {q:List Nod} (hp:p<f.p.length) (h:As W f.p a hf2 far q (yfo f W p 4)):As W f.p a hf2 far q fun _ _=>True:=by
 refine⟨h.len,h.low,h.heap,h.itm,h.src,h.why,h.top,fun u v h1 h2 h3 _=>h.all u v h1 h2 h3 ?_⟩
 by_cases hu:u=p
 ·subst hu;exact .inr (zru hw hh hW (by omega) (by omega) h3)
 ·exact .inl hu
end
def muS (f:Fld) (far:List Int) (q:List Nod):Nat:=5*(f.p.length-zil zew far)+q.length
section
variable {f : Fld} {W H : Nat}
theorem zwr (hw:f.w=(W:Int)) (hh:f.h=(H:Int)) (hW:0<W) (hf:zbk f=0) (hL:f.p.length=W*H) (b:Cel) {a:Nat} {far:List Int} {q:List Nod} (h:As W f.p a (fun n=>zbf b (zdv W n)) far q fun _ _=>True) (hq:0<q.length) (h0:far.getD (zal f (q.getD 0 default).c) default<0) :
 ∃p,(q.getD 0 default).c=zdv W p∧zal f (q.getD 0 default).c=p∧p<f.p.length∧0≤(q.getD 0 default).far∧As W f.p a (fun n=>zbf b (zdv W n)) (far.set p (q.getD 0 default).far) (zfp Nod.all q) (fun x _=>x≠p)∧(far.set p (q.getD 0 default).far).getD p default=(q.getD 0 default).far∧zil zew (far.set p (q.getD 0 default).far)=zil zew far+1 ∧
  (∀m,m<f.p.length→0≤(far.set p (q.getD 0 default).far).getD m default→(far.set p (q.getD 0 default).far).getD m default+zbf b (zdv W m)≤(q.getD 0 default).far+zbf b (zdv W p))∧(q.getD 0 default).far+3≤3*zil zew (far.set p (q.getD 0 default).far):=by
 obtain⟨p,e1,hp,j0,jb,ja,jm,jw⟩:=h.itm _ ((zfj Nod.all q hq _).2 (.inl rfl))
 have hidx:zal f (q.getD 0 default).c=p:=by rw[e1];exact(ztq hw hh hW (by omega)).2
 rw[hidx]at h0
 obtain⟨_,hA⟩:=h.close hW hq e1 h0
 have hpL:p<far.length:=by rw[h.len];exact hp
 have G:=fun k=>zn1 (q.getD 0 default).far k hpL
 have cnt:zil zew (far.set p (q.getD 0 default).far)=zil zew far+1:=by
  have:=zgb zew far p (q.getD 0 default).far hpL
  simp only[zew,if_neg (show ¬0≤far.getD p default by omega),if_pos j0]at this;simpa[zew]using this
 refine⟨p,e1,hidx,hp,j0,hA,by rw[G,if_pos rfl],cnt,fun m hm hm0 => ?_,by rw[cnt];omega⟩
 rw[G]at hm0 ⊢
 split
 ·rename_i e;subst e;exact Int.le_refl _
 ·rename_i e
  rw[if_neg e]at hm0
  have:=jm m hm hm0
  omega
theorem yd0 (hw:f.w=(W:Int)) (hh:f.h=(H:Int)) (hW:0<W) (hf:zbk f=0) (hL:f.p.length=W*H) (b:Cel) {a:Nat} : ∀(N:Nat) (far:List Int) (q:List Nod),As W f.p a (fun n=>zbf b (zdv W n)) far q (fun _ _=>True)→muS f far q≤N →
 As W f.p a (fun n=>zbf b (zdv W n)) (zk2 f b N far q).1 (zk2 f b N far q).2 (fun _ _=>True)∧¬goB f b (zk2 f b N far q).1 (zk2 f b N far q).2:=by
 intro N
 induction N with
 | zero =>
  intro far q h hm
  refine⟨h,fun hg => ?_⟩
  have:=hg.1
  simp only[zk2]at this
  unfold muS at hm;omega
 | succ N ih =>
  intro far q h hm
  rw[zk2]
  split
  ·rename_i hg
   have hcl:=zg7 zew 1 zhc far
   rw[h.len]at hcl
   split
   ·rename_i h0
    obtain⟨p,e1,hp,_⟩:=h.itm _ ((zfj Nod.all q hg.1 _).2 (.inl rfl))
    have hidx:zal f (q.getD 0 default).c=p:=by rw[e1];exact(ztq hw hh hW (by omega)).2
    rw[hidx]at h0
    exact ih _ _ (h.skip hg.1 e1 h0) (by unfold muS at *;rw[zgj];omega)
   ·rename_i h0
    obtain⟨p,e1,hidx,hp,j0,hA,hself,cnt,top,hb⟩:=zwr hw hh hW hf hL b h hg.1 (by omega)
    have h4:=z8b hw hh hW hf hL b hA hp hself j0 top hb 4 (Nat.le_refl _)
    rw[show (zaf (zdv W p)).take 4=zaf (zdv W p)from rfl]at h4
    have h5:=zvq hw hh hW hL hp h4
    rw[hidx,e1]
    refine ih _ _ h5 ?_
    have hll:=zlo f b (far.set p (q.getD 0 default).far) (q.getD 0 default).far (zaf (zdv W p)) (zfp Nod.all q)
    have hcl2:=zg7 zew 1 zhc (far.set p (q.getD 0 default).far)
    rw[List.length_set,h.len]at hcl2
    rw[zgj,show (zaf (zdv W p)).length=4 from rfl]at hll
    unfold muS at *
    rw[cnt];omega
  ·rename_i hg
   exact⟨h,hg⟩
end
end Go.Proofs.YtmjbgbmegbkmhaaGreat
namespace Go.Proofs.YtmjbgbmegbkmhaaGreat
set_option linter.all false
open Go.RowKit
set_option maxRecDepth 100000
set_option maxHeartbeats 1000000
theorem z95 (f:Fld) (b:Cel) (far:List Int) (l:List Nod) (c:Cel) (d:Int) (hl:l.length≤1000000) (hx : -1000≤c.x∧c.x≤1000) (hy : -1000≤c.y∧c.y≤1000) (hbx:0≤b.x∧b.x≤40) (hby:0≤b.y∧b.y≤40) (hd:0≤d∧d≤1000000):Spec Tryz.prog 179 [.ptr 0 0 0,zgw c,I .i64 d] [.blk 300 [I .i64 f.w,I .i64 f.h,.c (.sl 1 (f.p.map zad)),I .i64 b.x,I .i64 b.y,.own 1,.own 2],.row 3 1 (far.map zad),.row 327 4 (l.map zbv)] (.tup []) [.blk 300 [I .i64 f.w,I .i64 f.h,.c (.sl 1 (f.p.map zad)),I .i64 b.x,I .i64 b.y,.own 1,.own 3],.row 3 1 (far.map zad),.dead,.row 327 4 ((zdp Nod.all l ⟨c,d,d+zbf b c⟩).map zbv)]:=by
 have e1:IntKind.i64.wrap (d+IntKind.i64.wrap (2*(((b.x-c.x).natAbs+(b.y-c.y).natAbs:Nat):Int)))=d+zbf b c:=by unfold zbf;rw[zak (2*_) (by omega) (by omega),zak _ (by omega) (by omega)]
 refine spB Tryz.func179 32 [] Tryz.results179 ?_
 try refine xz1 e1 ?_
 refine caP (zol c b (by simp[zed];omega) (by simp[zed];omega)) ?_
 try refine xz1 e1 ?_
 (try(refine⟨by kernel_rfl,?_⟩))
 try refine xz1 e1 ?_
 refine zfv [0,1,2] (z5g f b far l ⟨c,d,d+zbf b c⟩ hl) (WkL.refl _) rfl (by decide) (by simp[zbw,zfb,zrw]) ?_
 try refine xz1 e1 ?_
 (try(refine⟨by kernel_rfl,?_⟩))
 try refine xz1 e1 ?_
 refine zcc [0,1,2,104] rfl rfl (by decide) ⟨?_,?_,?_,?_,trivial⟩ trivial ?_<;>simp(etaStruct := .none)only[push_cast,zab,seval]
end Go.Proofs.YtmjbgbmegbkmhaaGreat
namespace Go.Proofs.YtmjbgbmegbkmhaaGreat
set_option linter.all false
open Go.RowKit
set_option maxRecDepth 100000
def zvc (R:List Int) (f:Fld) (c n:Cel):Bool:=decide (0≤R.getD (zal f n) default)&&decide (R.getD (zal f n) default+kV (zah f c)=R.getD (zal f c) default)
def zmh (R:List Int) (f:Fld) (c:Cel):Cel:=((zeb f c).find? (zvc R f c)).getD default
def zza (R:List Int) (f:Fld) (a:Cel):Nat→Cel→List Cel
 | 0,_ => []
 | N+1,c=>if c=a then []else zmh R f c::zza R f a N (zmh R f c)
def ycp (R:List Int) (f:Fld) (a b:Cel):List Cel:=(b::zza R f a (R.getD (zal f b) default).toNat b).reverse
def zl9 (R:List Int) (f:Fld) (a b:Cel):Int:=if zbk f≠0 then zbk f else if ¬(inF f a=true∧inF f b=true)then 7 else if zah f a=1∨zah f b=1 then 9 else if R.getD (zal f b) default<0 then 6 else 0
theorem zrt {f:Fld} {W H:Nat} (hw:f.w=(W:Int)) (hh:f.h=(H:Int)) (hW:0<W) (hf:zbk f=0) (hL:f.p.length=W*H) {c n:Cel} (hc:inF f c=true) (hn:n∈zeb f c):inF f n=true∧Adj W (zal f c) (zal f n)∧zal f n<f.p.length:=by
 obtain⟨h1,h2⟩:=List.mem_filter.1 hn
 obtain⟨e1,e2⟩:=zbi hw hh hW hf hc
 rw[e1]at h1
 exact⟨h2,zkv hw hh hW (by omega) h1 h2,(zbi hw hh hW hf h2).2⟩
theorem yej {f:Fld} {W H:Nat} (hw:f.w=(W:Int)) (hh:f.h=(H:Int)) (hW:0<W) (hf:zbk f=0) (hL:f.p.length=W*H) {a c:Cel} {R:List Int} (hR:Flood W f.p [zal f a] R) (ha:inF f a=true) (hc:inF f c=true) (hca:c≠a) (h0:0≤R.getD (zal f c) default) :
 ∃n∈zeb f c,zvc R f c n=true:=by
 obtain⟨e1,e2⟩:=zbi hw hh hW hf hc
 rcases hR.why _ e2 h0 with ⟨h1,h2⟩|⟨m,hm,hadj,hr,h3,h4⟩
 ·rw[List.mem_singleton]at h1
  have:=(zbi hw hh hW hf ha).1
  rw[←h1,←e1]at this
  exact absurd this.symm hca
 ·have hp:=hR.all m _ hm e2 hadj.symm h3 hr
  obtain⟨n,hn,hin,rfl⟩:=zru hw hh hW (by omega) (by omega) hadj
  rw[←e1]at hn
  refine⟨n,List.mem_filter.2 ⟨hn,hin⟩,?_⟩
  unfold zvc
  have epl:zah f c=f.p.getD (zal f c) default:=rfl
  rw[epl,Bool.and_eq_true,decide_eq_true_eq,decide_eq_true_eq]
  exact⟨h3,by omega⟩
theorem z03 {f:Fld} {W H:Nat} (hw:f.w=(W:Int)) (hh:f.h=(H:Int)) (hW:0<W) (hf:zbk f=0) (hL:f.p.length=W*H) {a c:Cel} {R:List Int} (hR:Flood W f.p [zal f a] R) (ha:inF f a=true) (hc:inF f c=true) (hca:c≠a) (h0:0≤R.getD (zal f c) default) :
 (zeb f c).find? (zvc R f c)=some (zmh R f c)∧zmh R f c∈zeb f c∧inF f (zmh R f c)=true∧Adj W (zal f c) (zal f (zmh R f c))∧0≤R.getD (zal f (zmh R f c)) default∧R.getD (zal f (zmh R f c)) default+kV (zah f c)=R.getD (zal f c) default:=by
 obtain⟨n,hn,hp⟩:=yej hw hh hW hf hL hR ha hc hca h0
 cases hfi:(zeb f c).find? (zvc R f c)with
 | none=>exact absurd hp (by simpa using List.find?_eq_none.1 hfi n hn)
 | some m =>
  have e:zmh R f c=m:=by unfold zmh;rw[hfi];rfl
  have hm:=List.mem_of_find?_eq_some hfi
  have hq:=List.find?_some hfi
  unfold zvc at hq
  rw[Bool.and_eq_true,decide_eq_true_eq,decide_eq_true_eq]at hq
  obtain⟨b1,b2,_⟩:=zrt hw hh hW hf hL hc hm
  rw[e]
  exact⟨rfl,hm,b1,b2,hq.1,hq.2⟩
theorem z94 {f:Fld} {W H:Nat} (hw:f.w=(W:Int)) (hh:f.h=(H:Int)) (hW:0<W) (hf:zbk f=0) (hL:f.p.length=W*H) {a b c:Cel} {R far:List Int} {q:List Nod} (hR:Flood W f.p [zal f a] R) (ha:inF f a=true) (hpa:zah f a≠1) (hc:inF f c=true) (h0:0≤R.getD (zal f c) default)
 (hA:As W f.p (zal f a) (fun n=>zbf b (zdv W n)) far q fun _ _=>True) (hcb:R.getD (zal f c) default+zbf b c≤R.getD (zal f b) default) (hq:∀x∈q,R.getD (zal f b) default<x.all) (hfc:far.getD (zal f c) default=R.getD (zal f c) default) {n:Cel} (hn:n∈zaf c) :
 ((zct f n).2=true∧0≤far.getD (zal f n) default∧far.getD (zal f n) default+kV (zah f c)=far.getD (zal f c) default)↔(inF f n=true∧zvc R f c n=true):=by
 have hcons:=zor hw hh hW b
 rw[←hL]at hcons
 have haL:=(zbi hw hh hW hf ha).2
 obtain⟨ec,hcL⟩:=zbi hw hh hW hf hc
 have hkv:=zy4 (zah f c)
 have epl:∀n,zah f n=f.p.getD (zal f n) default:=fun _=>rfl
 unfold zvc zct
 rw[Bool.and_eq_true,decide_eq_true_eq,decide_eq_true_eq,hfc]
 constructor
 ·rintro⟨h1,h2,h3⟩
  have hin:inF f n=true:=by
   cases hi:inF f n with
   | true=>rfl
   | false=>rw[hi]at h1;simp at h1
  have:=hA.same hcons haL hR (zbi hw hh hW hf hin).2 h2
  rw[this]at h2 h3
  exact⟨hin,h2,h3⟩
 ·rintro⟨hin,h2,h3⟩
  obtain⟨en,hnL⟩:=zbi hw hh hW hf hin
  have hadj:Adj W (zal f c) (zal f n):=by rw[ec]at hn;exact zkv hw hh hW (by omega) hn hin
  have hle:=hcons _ _ hnL hcL hadj.symm
  simp only at hle
  rw[←en,←ec]at hle
  have hk:=hA.known hcons haL hR hnL h2 (fun x hx=>by have:=hq x hx;rw[←en];omega)
  rw[hk]
  refine⟨?_,h2,h3⟩
  rw[if_pos hin,if_neg]
  rw[epl]
  rcases hR.why _ hnL h2 with ⟨w1,_⟩|⟨_,_,_,hr,_⟩
  ·rw[List.mem_singleton]at w1;rw[w1];exact hpa
  ·exact hr
theorem zym {f:Fld} {R:List Int} {c:Cel} {p:Cel→Bool} (hp:∀n∈zaf c,p n=(inF f n&&zvc R f c n)):(zaf c).find? p=(zeb f c).find? (zvc R f c):=by
 unfold zeb
 rw[List.find?_filter]
 have key:∀l:List Cel,(∀n∈l,p n=(inF f n&&zvc R f c n))→l.find? p=l.find? (fun n=>inF f n&&zvc R f c n):=by
  intro l
  induction l with
  | nil=>intro _;rfl
  | cons x r ih=>intro h;rw[List.find?_cons,List.find?_cons,h x (by simp),ih fun n hn=>h n (by simp[hn])]
 have:=key _ hp
 simpa using this
end Go.Proofs.YtmjbgbmegbkmhaaGreat
namespace Go.Proofs.YtmjbgbmegbkmhaaGreat
set_option linter.all false
open Go.RowKit
set_option maxRecDepth 100000
set_option maxHeartbeats 2000000
def ybh (f:Fld) (c:Cel):Nat:=if inF f c=true then zal f c else 0
theorem zi6 {f:Fld} {c:Cel} (h:inF f c=true):ybh f c=zal f c:=if_pos h
theorem z13 {f:Fld} (hf:zbk f=0) (c:Cel):ybh f c<f.p.length:=by
 have hfo:=zbc hf
 unfold ybh
 split
 ·rename_i h
  have:=za5 hf h
  unfold zal;omega
 ·have h1:0<f.w*f.h:=Int.mul_pos (by omega) (by omega)
  omega
theorem zla (f:Fld) (b:Cel) (far:List Int) (q:List Nod) (c:Cel) (hf:zbk f=0) (hc:(zct f c).2=true):Spec Tryz.prog 163 [.fel 7 [yh6 f b far q] 0 0,zgw c] [] (I .i64 (ybh f c)) []:=by
 have hin:inF f c=true:=by
  cases hi:inF f c with
  | true=>rfl
  | false=>unfold zct at hc;rw[hi]at hc;simp at hc
 rw[zi6 hin];exact zef f b far q c hf hin
theorem zku (c:Cel) (k:Nat) (hk:k<4):List.take 2 (List.drop (k*2) ([I .i64 c.x,I .i64 (c.y-1),I .i64 (c.x-1),I .i64 c.y,I .i64 (c.x+1),I .i64 c.y,I .i64 c.x,I .i64 (c.y+1)]:List AV)) = [I .i64 ((zaf c).getD k default).x,I .i64 ((zaf c).getD k default).y]:=by
 have:k=0∨k=1∨k=2∨k=3:=by omega
 rcases this with rfl|rfl|rfl|rfl<;>rfl
theorem zz2 {f:Fld} {c:Cel} (hf:zbk f=0) (hc:inF f c=true) (k:Nat) (hk:k<4):(-1000≤((zaf c).getD k default).x∧((zaf c).getD k default).x≤1000) ∧ -1000≤((zaf c).getD k default).y∧((zaf c).getD k default).y≤1000:=by
 have h1:=inF_iff.1 hc
 have h2:=zbc hf
 have:k=0∨k=1∨k=2∨k=3:=by omega
 rcases this with rfl|rfl|rfl|rfl<;>simp only[zaf,List.getD_cons_zero,List.getD_cons_succ]<;>omega
theorem z9w {f:Fld} {b:Cel} {fr:List Int} {m:List Nod} (h:0<m.length∧(fr.getD (zal f b) default<0∨(m.getD 0 default).all≤fr.getD (zal f b) default)) (M:Nat):zk2 f b (M+1) fr m=if 0≤fr.getD (zal f (m.getD 0 default).c) default then zk2 f b M fr (zfp Nod.all m)
 else zk2 f b M (fr.set (zal f (m.getD 0 default).c) (m.getD 0 default).far) (zet f b (fr.set (zal f (m.getD 0 default).c) (m.getD 0 default).far) (m.getD 0 default).far (zfp Nod.all m) (zaf (m.getD 0 default).c)):=by
 rw[zk2,if_pos h]
theorem z9v {f:Fld} {b:Cel} {fr:List Int} {m:List Nod} (h:¬(0<m.length∧(fr.getD (zal f b) default<0∨(m.getD 0 default).all≤fr.getD (zal f b) default))) (M:Nat):zk2 f b M fr m=(fr,m):=by
 cases M with
 | zero=>rfl
 | succ M=>rw[zk2,if_neg h]
theorem z78 (f:Fld) (b:Cel) {W H:Nat} (hw:f.w=(W:Int)) (hh:f.h=(H:Int)) (hW:0<W) (hf:zbk f=0) (hL:f.p.length=W*H) (hb:inF f b=true) (a N:Nat) (far:List Int) (q:List Nod) (hA:As W f.p a (fun n=>zbf b (zdv W n)) far q (fun _ _=>True)) (hm:muS f far q≤N) (hN:N≤100000):Spec Tryz.prog 180 [.ptr 0 0 0] [.blk 300 [I .i64 f.w,I .i64 f.h,.c (.sl 1 (f.p.map zad)),I .i64 b.x,I .i64 b.y,.own 1,.own 2],.row 3 1 (far.map zad),.row 327 4 (q.map zbv)] (.tup []) [.blk 300 [I .i64 f.w,I .i64 f.h,.c (.sl 1 (f.p.map zad)),I .i64 b.x,I .i64 b.y,.own 1,.own 3],.row 3 1 ((zk2 f b N far q).1.map zad),.dead,.row 327 4 ((zk2 f b N far q).2.map zbv)]:=by
 have hbW:zal f b<f.p.length:=(zbi hw hh hW hf hb).2
 have hbi:=inF_iff.1 hb
 have hfo:=zbc hf
 have hpl:=(za5 hf hb).2.2.2.2
 refine spB Tryz.func180 108 [] Tryz.results180 ?_
 (iterate 2((try simp(etaStruct := .none)only[push_cast,seval]);(try(refine xsu ?_;try exact xtI))))
 refine zcl (zef f b far q b hf hb) (WkL.refl _) rfl ?_
 (iterate 2((try simp(etaStruct := .none)only[push_cast,seval]);(try(refine xsu ?_;try exact xtI))))
 refine zaw (fun x:Nat × List Int × List Nod=>⟨[(2,I .i64 (zal f b)),(0,.ptr 0 0 0)],[(0,.blk 300 [I .i64 f.w,I .i64 f.h,.c (.sl 1 (f.p.map zad)),I .i64 b.x,I .i64 b.y,.own 1,.own 3]),(1,.row 3 1 (x.2.1.map zad)),(2,.dead),(3,.row 327 4 (x.2.2.map zbv))],4⟩) (fun x:Nat × List Int × List Nod=>As W f.p a (fun n=>zbf b (zdv W n)) x.2.1 x.2.2 (fun _ _=>True)∧muS f x.2.1 x.2.2≤x.1∧x.1≤N∧zk2 f b x.1 x.2.1 x.2.2=zk2 f b N far q) (fun x:Nat × List Int × List Nod=>x.1) ((N,far,q)) (⟨hA,hm,Nat.le_refl _,rfl⟩) ((To.moveC 0 6 2 327 4 300 _ (q.map zbv) rfl rfl rfl).trans (To.mk [0,1,2,3] rfl rfl (by decide) ?_ ?_)) ?_
 ·simp(etaStruct := .none)only[push_cast,zab,seval,List.set_cons_zero,List.set_cons_succ]
 ·simp(etaStruct := .none)only[push_cast,zab,seval]
 rintro⟨M,fr,m⟩ ⟨hA,hm,hMN,hu⟩
 simp only at hA hm hMN hu
 have hbF:zal f b<fr.length:=by rw[hA.len];exact hbW
 rcases Nat.eq_zero_or_pos m.length with hz|hz
 ·obtain rfl:=List.length_eq_zero_iff.1 hz
  have e:zk2 f b M fr []=(fr,[]):=by
   cases M with
   | zero=>rfl
   | succ M=>rw[zk2,if_neg (fun h=>by simp at h)]
  simp only[awp,ygg]
  refine zbm _ rfl ?_
  intro O l R hl hd hR
  subst hl
  iterate 4(refine za1 fun r hr => ?_;simp(etaStruct := .none)only[push_cast,zab,seval,hd];subst hr)
  refine za1 fun r hr => ?_
  simp(etaStruct := .none)only[push_cast,zab,seval,hd]
  refine zcl (zql []) (WkL.refl _) rfl ?_
  simp(etaStruct := .none)only[push_cast,zab,seval,hd,List.length_nil,Int.ofNat_zero,Int.lt_irrefl]
  subst hr
  iterate 28(refine za1 fun r hr => ?_;simp(etaStruct := .none)only[push_cast,zab,seval,hd,zaa _ _ _ hbF,zad,List.length_nil,Int.ofNat_zero,Int.lt_irrefl,id];(try refine⟨fun h=>absurd h (by decide),?_⟩);(try refine⟨fun h=>h.elim,?_⟩);subst hr)
  refine zml ?_
  subst hR
  refine zmk (by kernel_rfl) ?_
  simp(etaStruct := .none) (maxSteps:=1000000)only[push_cast,zab,seval]
  refine zax (fun h1 => ?_) (fun h1 => ?_)
  ·exact absurd h1 (by decide)
  ·rw[←hu,e]
   try refine xst ?_
   refine zcc [0,1,2,3] rfl rfl (by decide) ⟨?_,?_,?_,?_,trivial⟩ trivial ?_<;>simp(etaStruct := .none)only[push_cast,zab,seval]
 have hzd:(0<(m.length:Int))=True:=eq_true (by omega)
 have hmu5:m.length≤100000:=by unfold muS at hm;omega
 (iterate 2((try simp(etaStruct := .none)only[push_cast,seval,hzd,zaa _ _ _ hbF,zaa _ _ _ hz,zad,zbv]);(try(refine xsu ?_;try exact xtI))))
 refine zbm [some 14,some 15,some 16,some 17,some 18,some 19,some 20,some 21,some 22,some 23,some 24,some 25,some 26,some 27,some 28,some 29,some 30,some 31,some 32,some 33,some 34,some 35,some 36,some 37,some 38,some 39,some 40,some 41,some 42,some 43,some 44,some 45,some 46] rfl ?_
 intro Oq lq Rq hlq hdq hRq
 subst hlq
 iterate 4(refine za1 fun rq hrq => ?_;(iterate 2((try simp(etaStruct := .none)only[push_cast,seval,hdq,id,hzd,zaa _ _ _ hbF,zaa _ _ _ hz,zad,zbv]);(try(refine xsu ?_;try exact xtI))));subst hrq)
 refine za1 fun rq hrq => ?_
 (iterate 2((try simp(etaStruct := .none)only[push_cast,seval,hdq,id,hzd,zaa _ _ _ hbF,zaa _ _ _ hz,zad,zbv]);(try(refine xsu ?_;try exact xtI))))
 refine zcl (zql m) (WkL.refl _) rfl ?_
 (iterate 2((try simp(etaStruct := .none)only[push_cast,seval,hdq,id,hzd,zaa _ _ _ hbF,zaa _ _ _ hz,zad,zbv]);(try(refine xsu ?_;try exact xtI))))
 subst hrq
 iterate 28(refine za1 fun rq hrq => ?_;(iterate 2((try simp(etaStruct := .none)only[push_cast,seval,hdq,id,hzd,zaa _ _ _ hbF,zaa _ _ _ hz,zad,zbv]);(try(refine xsu ?_;try exact xtI))));subst hrq)
 refine zml ?_
 subst hRq
 clear hdq Oq
 refine zmk (by kernel_rfl) ?_
 (iterate 2((try simp(etaStruct := .none)only[push_cast,seval,hzd,zaa _ _ _ hbF,zaa _ _ _ hz,zad,zbv]);(try(refine xsu ?_;try exact xtI))))
 refine cI (fun h1 => ?_) fun h1 => ?_
 ·have hg:goB f b fr m:=⟨hz,h1⟩
  obtain⟨p,e1,hp,j0,jb,_⟩:=hA.itm _ ((zfj Nod.all m hz _).2 (.inl rfl))
  obtain⟨hin,hidx⟩:=ztq (f:=f) hw hh hW (p:=p) (by omega)
  rw[←e1]at hin hidx
  have hpF:zal f (m.getD 0 default).c<fr.length:=by rw[hidx,hA.len];exact hp
  have hci:=inF_iff.1 hin
  have hcl:=zg7 zew 1 zhc fr
  rw[hA.len]at hcl
  obtain⟨M',rfl⟩:∃M',M=M'+1:=⟨M-1,by unfold muS at hm;omega⟩
  have hrun:=z9w hg M'
  (iterate 2((try simp(etaStruct := .none)only[push_cast,seval,hzd,zaa _ _ _ hbF,zaa _ _ _ hz,zad,zbv,zaa _ _ _ hpF]);(try(refine xsu ?_;try exact xtI))))
  refine caM [0,1,3] (yam f b fr m hz (by omega)) ?_
  (iterate 2((try simp(etaStruct := .none)only[push_cast,seval,hzd,zaa _ _ _ hbF,zaa _ _ _ hz,zad,zbv,zaa _ _ _ hpF]);(try(refine xsu ?_;try exact xtI))))
  refine zbm [some 53,some 54,some 55,some 56,some 57,some 58,some 59,some 60,some 61,some 62,some 63] rfl ?_
  intro Oq lq Rq hlq hdq hRq
  subst hlq
  iterate 7(refine za1 fun rq hrq => ?_;(iterate 2((try simp(etaStruct := .none)only[push_cast,seval,hdq,id,hzd,zaa _ _ _ hbF,zaa _ _ _ hz,zad,zbv,zaa _ _ _ hpF]);(try(refine xsu ?_;try exact xtI))));subst hrq)
  refine za1 fun rq hrq => ?_
  (iterate 2((try simp(etaStruct := .none)only[push_cast,seval,hdq,id,hzd,zaa _ _ _ hbF,zaa _ _ _ hz,zad,zbv,zaa _ _ _ hpF]);(try(refine xsu ?_;try exact xtI))))
  refine zcl (zef f b fr (zfp Nod.all m) (m.getD 0 default).c hf hin) (WkL.refl _) rfl ?_
  (iterate 2((try simp(etaStruct := .none)only[push_cast,seval,hdq,id,hzd,zaa _ _ _ hbF,zaa _ _ _ hz,zad,zbv,zaa _ _ _ hpF]);(try(refine xsu ?_;try exact xtI))))
  subst hrq
  iterate 3(refine za1 fun rq hrq => ?_;(iterate 2((try simp(etaStruct := .none)only[push_cast,seval,hdq,id,hzd,zaa _ _ _ hbF,zaa _ _ _ hz,zad,zbv,zaa _ _ _ hpF]);(try(refine xsu ?_;try exact xtI))));subst hrq)
  refine zml ?_
  subst hRq
  clear hdq Oq
  refine zmk (by kernel_rfl) ?_
  (iterate 2((try simp(etaStruct := .none)only[push_cast,seval,hzd,zaa _ _ _ hbF,zaa _ _ _ hz,zad,zbv,zaa _ _ _ hpF]);(try(refine xsu ?_;try exact xtI))))
  refine cI (fun h2 => ?_) fun h2 => ?_
  ·skip
   (iterate 2((try simp(etaStruct := .none)only[push_cast,seval,hzd,zaa _ _ _ hbF,zaa _ _ _ hz,zad,zbv,zaa _ _ _ hpF]);(try(refine xsu ?_;try exact xtI))))
   refine⟨(M',fr,zfp Nod.all m),⟨hA.skip hz e1 (by rw[←hidx];exact h2),by simp only;unfold muS at hm ⊢;rw[zgj];omega,by simp only;omega,by rw[←hu,hrun,if_pos h2]⟩,by simp only;omega,To.mk [0,1,2,136] rfl rfl (by decide) ?_ ?_⟩
   ·(iterate 2((try simp(etaStruct := .none)only[push_cast,seval,hzd,zaa _ _ _ hbF,zaa _ _ _ hz,zad,zbv,zaa _ _ _ hpF]);(try(refine xsu ?_;try exact xtI))))
   ·(iterate 2((try simp(etaStruct := .none)only[push_cast,seval,hzd,zaa _ _ _ hbF,zaa _ _ _ hz,zad,zbv,zaa _ _ _ hpF]);(try(refine xsu ?_;try exact xtI))))
  ·obtain⟨p',e1',_,_,_,hA2,hself,cnt,top,hb3⟩:=zwr hw hh hW hf hL b hA hz (by omega)
   obtain rfl:p=p':=zd1 (e1.symm.trans e1')
   obtain⟨C,hC⟩:∃C,C=(m.getD 0 default).c:=⟨_,rfl⟩
   obtain⟨D,hD⟩:∃D,D=(m.getD 0 default).far:=⟨_,rfl⟩
   rw[←hidx,←hC,←hD]at hA2 hself cnt top hb3
   rw[←hC,←hD]at hrun
   rw[←hC]at hin hci e1 hidx hpF
   rw[←hD]at j0 jb
   obtain⟨Fq,hFS⟩:∃Fq,Fq=fr.set (zal f C) D:=⟨_,rfl⟩
   rw[←hFS]at hA2 hself cnt top hb3 hrun
   have hFl:Fq.length=f.p.length:=by rw[hFS,List.length_set];exact hA.len
   (iterate 2((try simp(etaStruct := .none)only[push_cast,seval,hzd,zaa _ _ _ hbF,zaa _ _ _ hz,zad,zbv,zaa _ _ _ hpF,←hC,←hD]);(try(refine xsu ?_;try exact xtI))))
   refine zbm [some 64,some 65,some 66,some 67,some 68,some 69,some 70,some 71,some 72,some 73,some 74,none] rfl ?_
   intro Oq lq Rq hlq hdq hRq
   subst hlq
   iterate 7(refine za1 fun rq hrq => ?_;(iterate 2((try simp(etaStruct := .none)only[push_cast,seval,hdq,id,hzd,zaa _ _ _ hbF,zaa _ _ _ hz,zad,zbv,zaa _ _ _ hpF,←hC,←hD]);(try(refine xsu ?_;try exact xtI))));subst hrq)
   refine za1 fun rq hrq => ?_
   (iterate 2((try simp(etaStruct := .none)only[push_cast,seval,hdq,id,hzd,zaa _ _ _ hbF,zaa _ _ _ hz,zad,zbv,zaa _ _ _ hpF,←hC,←hD]);(try(refine xsu ?_;try exact xtI))))
   refine zcl (zef f b fr (zfp Nod.all m) C hf hin) (WkL.refl _) rfl ?_
   (iterate 2((try simp(etaStruct := .none)only[push_cast,seval,hdq,id,hzd,zaa _ _ _ hbF,zaa _ _ _ hz,zad,zbv,zaa _ _ _ hpF,←hC,←hD]);(try(refine xsu ?_;try exact xtI))))
   subst hrq
   iterate 4(refine za1 fun rq hrq => ?_;(iterate 2((try simp(etaStruct := .none)only[push_cast,seval,hdq,id,hzd,zaa _ _ _ hbF,zaa _ _ _ hz,zad,zbv,zaa _ _ _ hpF,←hC,←hD]);(try(refine xsu ?_;try exact xtI))));subst hrq)
   refine zml ?_
   subst hRq
   clear hdq Oq
   refine zmk (by kernel_rfl) ?_
   (iterate 2((try simp(etaStruct := .none)only[push_cast,seval,hzd,zaa _ _ _ hbF,zaa _ _ _ hz,zad,zbv,zaa _ _ _ hpF,←hC,←hD]);(try(refine xsu ?_;try exact xtI))))
   refine caP (zu1 C (by omega) (by omega)) ?_
   (iterate 2((try simp(etaStruct := .none)only[push_cast,seval,hzd,zaa _ _ _ hbF,zaa _ _ _ hz,zad,zbv,zaa _ _ _ hpF,←hC,←hD]);(try(refine xsu ?_;try exact xtI))))
   refine zaw (fun k:Nat=>⟨[(78,I .i64 k),(77,.agg [I .i64 C.x,I .i64 (C.y-1),I .i64 (C.x-1),I .i64 C.y,I .i64 (C.x+1),I .i64 C.y,I .i64 C.x,I .i64 (C.y+1)]),(3,.ptr 4 0 0),(2,I .i64 (zal f b)),(0,.ptr 0 0 0)],[(0,.blk 300 [I .i64 f.w,I .i64 f.h,.c (.sl 1 (f.p.map zad)),I .i64 b.x,I .i64 b.y,.own 1,.own 3]),(1,.row 3 1 (Fq.map zad)),(2,.dead),(3,.row 327 4 ((zet f b Fq D (zfp Nod.all m) ((zaf C).take k)).map zbv)),(4,.blk 327 [I .i64 C.x,I .i64 C.y,I .i64 D,I .i64 (m.getD 0 default).all])],5⟩) (fun k:Nat=>k≤4) (fun k:Nat=>4-k) (0) (Nat.zero_le _) (To.mk [0,1,2,136,137] rfl rfl (by decide) ?_ ?_) ?_
   ·simp(etaStruct := .none)only[push_cast,zab,seval,List.map_set,zad,List.take_zero,zet,List.foldl_nil,hFS]
   ·simp(etaStruct := .none)only[push_cast,zab,seval,Int.ofNat_zero]
   rintro k hk2
   (iterate 2((try simp(etaStruct := .none)only[push_cast,seval,hzd,zaa _ _ _ hbF,zaa _ _ _ hz,zad,zbv,zaa _ _ _ hpF,←hC,←hD]);(try(refine xsu ?_;try exact xtI))))
   refine cI (fun h3 => ?_) fun h3 => ?_
   ·have hlt:k<4:=by omega
    have hsc:=zku C k hlt
    have hsn:=zz2 hf hin k hlt
    have hst:zet f b Fq D (zfp Nod.all m) ((zaf C).take (k+1))=lk f b Fq D (zet f b Fq D (zfp Nod.all m) ((zaf C).take k)) ((zaf C).getD k default):=by rw[zan _ _ (show k<(zaf C).length from hlt),zna]
    have hgG:ybh f ((zaf C).getD k default)<Fq.length:=by rw[hFl];exact z13 hf _
    have hcb:0≤(zct f ((zaf C).getD k default)).1∧(zct f ((zaf C).getD k default)).1≤3:=by
     have:=zy4 (zah f ((zaf C).getD k default))
     unfold zct
     split
     ·split<;>simp only<;>omega
     ·simp only;omega
    have hql:((zet f b Fq D (zfp Nod.all m) ((zaf C).take k))).length≤100004:=by
     have h1:=zlo f b Fq D ((zaf C).take k) (zfp Nod.all m)
     rw[zgj,List.length_take]at h1
     omega
    (iterate 2((try simp(etaStruct := .none)only[push_cast,seval,hzd,zaa _ _ _ hbF,zaa _ _ _ hz,zad,zbv,zaa _ _ _ hpF,←hC,←hD,hsc,zaa _ _ _ hgG,zad]);(try(refine xsu ?_;try exact xtI))))
    refine zcl (zss f b Fq (zet f b Fq D (zfp Nod.all m) ((zaf C).take k)) ((zaf C).getD k default) hf) (WkL.refl _) rfl ?_
    (iterate 2((try simp(etaStruct := .none)only[push_cast,seval,hzd,zaa _ _ _ hbF,zaa _ _ _ hz,zad,zbv,zaa _ _ _ hpF,←hC,←hD,hsc,zaa _ _ _ hgG,zad]);(try(refine xsu ?_;try exact xtI))))
    refine zbm [some 87,some 88,some 89,some 90,some 91,some 92,some 93,some 94,some 95,some 96,some 97,some 98,some 99] rfl ?_
    intro Oq lq Rq hlq hdq hRq
    subst hlq
    iterate 8(refine za1 fun rq hrq => ?_;(iterate 2((try simp(etaStruct := .none)only[push_cast,seval,hdq,id,hzd,zaa _ _ _ hbF,zaa _ _ _ hz,zad,zbv,zaa _ _ _ hpF,←hC,←hD,hsc,zaa _ _ _ hgG,zad]);(try(refine xsu ?_;try exact xtI))));subst hrq)
    refine za1 fun rq hrq => ?_
    (iterate 2((try simp(etaStruct := .none)only[push_cast,seval,hdq,id,hzd,zaa _ _ _ hbF,zaa _ _ _ hz,zad,zbv,zaa _ _ _ hpF,←hC,←hD,hsc,zaa _ _ _ hgG,zad]);(try(refine xsu ?_;try exact xtI))))
    refine zly (fun hcc=>zla f b Fq (zet f b Fq D (zfp Nod.all m) ((zaf C).take k)) ((zaf C).getD k default) hf hcc) (WkL.refl _) rfl (by intro hc;(try simp(etaStruct := .none)only[push_cast,zab,seval]);(try simp_all)) ?_
    (iterate 2((try simp(etaStruct := .none)only[push_cast,seval,hdq,id,hzd,zaa _ _ _ hbF,zaa _ _ _ hz,zad,zbv,zaa _ _ _ hpF,←hC,←hD,hsc,zaa _ _ _ hgG,zad]);(try(refine xsu ?_;try exact xtI))))
    subst hrq
    iterate 4(refine za1 fun rq hrq => ?_;(iterate 2((try simp(etaStruct := .none)only[push_cast,seval,hdq,id,hzd,zaa _ _ _ hbF,zaa _ _ _ hz,zad,zbv,zaa _ _ _ hpF,←hC,←hD,hsc,zaa _ _ _ hgG,zad]);(try(refine xsu ?_;try exact xtI))));subst hrq)
    refine zml ?_
    subst hRq
    clear hdq Oq
    refine zmk (by kernel_rfl) ?_
    (iterate 2((try simp(etaStruct := .none)only[push_cast,seval,hzd,zaa _ _ _ hbF,zaa _ _ _ hz,zad,zbv,zaa _ _ _ hpF,←hC,←hD,hsc,zaa _ _ _ hgG,zad]);(try(refine xsu ?_;try exact xtI))))
    refine cI (fun h4 => ?_) fun h4 => ?_
    ·have hin2:inF f ((zaf C).getD k default)=true:=by
      cases hi:inF f ((zaf C).getD k default)with
      | true=>rfl
      | false=>have:=h4.1;unfold zct at this;rw[hi]at this;simp at this
     have hlk:lk f b Fq D (zet f b Fq D (zfp Nod.all m) ((zaf C).take k)) ((zaf C).getD k default)=zdp Nod.all (zet f b Fq D (zfp Nod.all m) ((zaf C).take k)) ⟨((zaf C).getD k default),D+(zct f ((zaf C).getD k default)).1,D+(zct f ((zaf C).getD k default)).1+zbf b ((zaf C).getD k default)⟩:=by unfold lk;rw[if_pos ⟨h4.1,by rw[←zi6 hin2];exact h4.2⟩]
     rw[hlk]at hst
     (iterate 2((try simp(etaStruct := .none)only[push_cast,seval,hzd,zaa _ _ _ hbF,zaa _ _ _ hz,zad,zbv,zaa _ _ _ hpF,←hC,←hD,hsc,zaa _ _ _ hgG,zad,hst]);(try(refine xsu ?_;try exact xtI))))
     refine caM [0,1,3] (z95 f b Fq (zet f b Fq D (zfp Nod.all m) ((zaf C).take k)) ((zaf C).getD k default) (D+(zct f ((zaf C).getD k default)).1) (by omega) hsn.1 hsn.2 (by omega) (by omega) (by omega)) ?_
     (iterate 2((try simp(etaStruct := .none)only[push_cast,seval,hzd,zaa _ _ _ hbF,zaa _ _ _ hz,zad,zbv,zaa _ _ _ hpF,←hC,←hD,hsc,zaa _ _ _ hgG,zad,hst]);(try(refine xsu ?_;try exact xtI))))
     refine⟨k+1,by omega,by omega,To.mk [0,1,2,58,4] rfl rfl (by decide) ?_ ?_⟩
     ·(iterate 2((try simp(etaStruct := .none)only[push_cast,seval,hzd,zaa _ _ _ hbF,zaa _ _ _ hz,zad,zbv,zaa _ _ _ hpF,←hC,←hD,hsc,zaa _ _ _ hgG,zad,hst]);(try(refine xsu ?_;try exact xtI))))
     ·(iterate 2((try simp(etaStruct := .none)only[push_cast,seval,hzd,zaa _ _ _ hbF,zaa _ _ _ hz,zad,zbv,zaa _ _ _ hpF,←hC,←hD,hsc,zaa _ _ _ hgG,zad,hst]);(try(refine xsu ?_;try exact xtI))))
    ·have hlk:lk f b Fq D (zet f b Fq D (zfp Nod.all m) ((zaf C).take k)) ((zaf C).getD k default)=(zet f b Fq D (zfp Nod.all m) ((zaf C).take k)):=by
      unfold lk
      rw[if_neg]
      rintro⟨c1,c2⟩
      have hin2:inF f ((zaf C).getD k default)=true:=by
       cases hi:inF f ((zaf C).getD k default)with
       | true=>rfl
       | false=>unfold zct at c1;rw[hi]at c1;simp at c1
      rw[←zi6 hin2]at c2
      rcases h4 with h4|h4
      ·rw[c1]at h4;exact absurd h4 (by decide)
      ·omega
     rw[hlk]at hst
     (iterate 2((try simp(etaStruct := .none)only[push_cast,seval,hzd,zaa _ _ _ hbF,zaa _ _ _ hz,zad,zbv,zaa _ _ _ hpF,←hC,←hD,hsc,zaa _ _ _ hgG,zad,hst]);(try(refine xsu ?_;try exact xtI))))
     refine⟨k+1,by omega,by omega,To.mk [0,1,2,3,4] rfl rfl (by decide) ?_ ?_⟩
     ·(iterate 2((try simp(etaStruct := .none)only[push_cast,seval,hzd,zaa _ _ _ hbF,zaa _ _ _ hz,zad,zbv,zaa _ _ _ hpF,←hC,←hD,hsc,zaa _ _ _ hgG,zad,hst]);(try(refine xsu ?_;try exact xtI))))
     ·(iterate 2((try simp(etaStruct := .none)only[push_cast,seval,hzd,zaa _ _ _ hbF,zaa _ _ _ hz,zad,zbv,zaa _ _ _ hpF,←hC,←hD,hsc,zaa _ _ _ hgG,zad,hst]);(try(refine xsu ?_;try exact xtI))))
   ·obtain rfl:k=4:=by omega
    have ht4:(zaf C).take 4=zaf C:=rfl
    have hpc:zal f C<f.p.length:=by omega
    have h4:=z8b hw hh hW hf hL b hA2 hpc hself j0 top hb3 4 (Nat.le_refl _)
    rw[hidx,←e1,ht4,←hidx]at h4
    have h5:=zvq hw hh hW hL hpc h4
    have hll:=zlo f b Fq D (zaf C) (zfp Nod.all m)
    rw[zgj,show (zaf C).length=4 from rfl]at hll
    have hcl2:=zg7 zew 1 zhc Fq
    rw[hFl]at hcl2
    (iterate 2((try simp(etaStruct := .none)only[push_cast,seval,hzd,zaa _ _ _ hbF,zaa _ _ _ hz,zad,zbv,zaa _ _ _ hpF,←hC,←hD,ht4]);(try(refine xsu ?_;try exact xtI))))
    refine⟨(M',Fq,zet f b Fq D (zfp Nod.all m) (zaf C)),⟨h5,by simp only;unfold muS at hm ⊢;omega,by simp only;omega,by rw[←hu,hrun,if_neg (by rw[hC];omega)]⟩,by simp only;omega,To.mk [0,1,2,3] rfl rfl (by decide) ?_ ?_⟩
    ·(iterate 2((try simp(etaStruct := .none)only[push_cast,seval,hzd,zaa _ _ _ hbF,zaa _ _ _ hz,zad,zbv,zaa _ _ _ hpF,←hC,←hD,ht4]);(try(refine xsu ?_;try exact xtI))))
    ·(iterate 2((try simp(etaStruct := .none)only[push_cast,seval,hzd,zaa _ _ _ hbF,zaa _ _ _ hz,zad,zbv,zaa _ _ _ hpF,←hC,←hD,ht4]);(try(refine xsu ?_;try exact xtI))))
 ·rw[←hu,z9v (fun h=>by have:=h.2;omega) M]
  (iterate 2((try simp(etaStruct := .none)only[push_cast,seval,hzd,zaa _ _ _ hbF,zaa _ _ _ hz,zad,zbv]);(try(refine xsu ?_;try exact xtI))))
  refine zcc [0,1,2,3] rfl rfl (by decide) ⟨?_,?_,?_,?_,trivial⟩ trivial ?_<;>simp(etaStruct := .none)only[push_cast,zab,seval]
theorem z0w (f:Fld) (b:Cel) (far:List Int) (x:Nod):Spec Tryz.prog 219 [.ptr 0 0 6,.ifc 327 (ycv x)] [.blk 300 [I .i64 f.w,I .i64 f.h,.c (.sl 1 (f.p.map zad)),I .i64 b.x,I .i64 b.y,.own 1,.c (.v (.slice none 0 0))],.row 3 1 (far.map zad)] (.tup []) [.blk 300 [I .i64 f.w,I .i64 f.h,.c (.sl 1 (f.p.map zad)),I .i64 b.x,I .i64 b.y,.own 1,.own 2],.row 3 1 (far.map zad),.row 327 4 ([x].map zbv)]:=by
 refine spB Tryz.func219 13 [] Tryz.results219 ?_
 try refine xst ?_
 (try(refine⟨by kernel_rfl,?_⟩))
 try refine xst ?_
 refine zcc [0,1,30] rfl rfl (by decide) ⟨?_,?_,?_,trivial⟩ trivial ?_<;>simp(etaStruct := .none)only[push_cast,zab,seval,zbv]
theorem z02 (f:Fld) (b:Cel) (far:List Int) (x:Nod):Spec Tryz.prog 189 [.ifc 325 (.ptr 0 0 6),.ifc 327 (ycv x)] [.blk 300 [I .i64 f.w,I .i64 f.h,.c (.sl 1 (f.p.map zad)),I .i64 b.x,I .i64 b.y,.own 1,.c (.v (.slice none 0 0))],.row 3 1 (far.map zad)] (.tup []) [.blk 300 [I .i64 f.w,I .i64 f.h,.c (.sl 1 (f.p.map zad)),I .i64 b.x,I .i64 b.y,.own 1,.own 2],.row 3 1 (far.map zad),.row 327 4 ((zdp Nod.all [] x).map zbv)]:=by
 refine spB Tryz.func189 12 [] Tryz.results189 ?_
 try refine xst ?_
 refine caM [0,1] (z0w f b far x) ?_
 try refine xst ?_
 refine zcl (zql [x]) (WkL.refl _) rfl ?_
 try refine xst ?_
 refine caM [0,1,2] (yd9 f b far [x] 0 (by simp) (by simp)) ?_
 try refine xst ?_
 refine zcc [0,1,2] rfl rfl (by decide) ⟨?_,?_,?_,trivial⟩ trivial ?_<;>simp(etaStruct := .none)only[push_cast,zab,seval,zdp]
abbrev srB (f:Fld) (b:Cel) (x y:AV):Chunk := .blk 300 [I .i64 f.w,I .i64 f.h,.c (.sl 1 (f.p.map zad)),I .i64 b.x,I .i64 b.y,x,y]
theorem zu2 (f:Fld) (b:Cel) (far:List Int) (c:Cel) (d:Int) (hx : -1000≤c.x∧c.x≤1000) (hy : -1000≤c.y∧c.y≤1000) (hbx:0≤b.x∧b.x≤40) (hby:0≤b.y∧b.y≤40) (hd:0≤d∧d≤1000000):Spec Tryz.prog 179 [.ptr 0 0 0,zgw c,I .i64 d] [.blk 300 [I .i64 f.w,I .i64 f.h,.c (.sl 1 (f.p.map zad)),I .i64 b.x,I .i64 b.y,.own 1,.c (.v (.slice none 0 0))],.row 3 1 (far.map zad)] (.tup []) [.blk 300 [I .i64 f.w,I .i64 f.h,.c (.sl 1 (f.p.map zad)),I .i64 b.x,I .i64 b.y,.own 1,.own 2],.row 3 1 (far.map zad),.row 327 4 ((zdp Nod.all [] ⟨c,d,d+zbf b c⟩).map zbv)]:=by
 have e1:IntKind.i64.wrap (d+IntKind.i64.wrap (2*(((b.x-c.x).natAbs+(b.y-c.y).natAbs:Nat):Int)))=d+zbf b c:=by unfold zbf;rw[zak (2*_) (by omega) (by omega),zak _ (by omega) (by omega)]
 refine spB Tryz.func179 32 [] Tryz.results179 ?_
 try refine xz1 e1 ?_
 refine caP (zol c b (by simp[zed];omega) (by simp[zed];omega)) ?_
 try refine xz1 e1 ?_
 (try(refine⟨by kernel_rfl,?_⟩))
 try refine xz1 e1 ?_
 refine zfv [0,1] (z02 f b far ⟨c,d,d+zbf b c⟩) (WkL.refl _) rfl (by decide) (by simp[zbw,zfb,zrw]) ?_
 try refine xz1 e1 ?_
 (try(refine⟨by kernel_rfl,?_⟩))
 try refine xz1 e1 ?_
 refine zcc [0,1,103] rfl rfl (by decide) ⟨?_,?_,?_,trivial⟩ trivial ?_<;>simp(etaStruct := .none)only[push_cast,zab,seval]
theorem znp {f:Fld} {c:Cel} (hf:zbk f=0):atV f c=if inF f c then (zah f c,0)else (0,7):=by unfold atV;rw[if_neg (by simp[hf])]
theorem zsi (f:Fld) (a b:Cel) (hl:f.p.length≤9223372036854775807) (hE:zbk f≠0∨¬(inF f a=true∧inF f b=true)∨zah f a=1∨zah f b=1) (R:List Int):Spec Tryz.prog 160 [zy6 f,zgw a,zgw b] [] (.tup [.c (.v (.pointer none)),I .i64 (zl9 R f a b)]) []:=by
 have key:(atV f a).2≠0∧zl9 R f a b=(atV f a).2∨(atV f a).2=0∧(atV f b).2≠0∧zl9 R f a b=(atV f b).2∨(atV f a).2=0∧(atV f b).2=0∧zl9 R f a b=9∧((atV f a).1=1∨(atV f b).1=1):=by
  by_cases hf:zbk f=0
  ·rw[znp hf,znp hf]
   unfold zl9
   cases ha:inF f a with
   | false=>exact .inl ⟨by simp[ha],by simp[ha,hf]⟩
   | true =>
    cases hb:inF f b with
    | false=>exact .inr (.inl ⟨by simp[ha],by simp[hb],by simp[hb,hf]⟩)
    | true =>
     rcases hE with h|h|h
     ·exact absurd hf h
     ·exact absurd ⟨ha,hb⟩ h
     ·exact .inr (.inr ⟨by simp[ha],by simp[hb],by simp[ha,hb,hf,h],by simpa[ha,hb]using h⟩)
  ·have e:∀c,atV f c=(0,zbk f):=fun c=>by unfold atV;rw[if_pos hf]
   rw[e]
   unfold zl9
   rw[if_pos hf]
   exact .inl ⟨hf,rfl⟩
 refine spB Tryz.func160 61 [.tmp 6,.tmp 7] Tryz.results160 ?_
 try refine xst ?_
 refine caP (zyv f a hl) ?_
 try refine xst ?_
 refine cI (fun h1 => ?_) fun h1 => ?_
 ·have e:zl9 R f a b=(atV f a).2:=by
   rcases key with k|k|k
   ·exact k.2
   ·exact absurd k.1 h1
   ·exact absurd k.1 h1
  try refine xst ?_
  (first|(refine zar rfl (Wk.of ?_);(try simp(etaStruct := .none)only[push_cast,zab,seval]);first|done|(simp[e, *];done)|(simp_all[e];done))|(refine zar rfl ?_;(try simp(etaStruct := .none)only[push_cast,zab,seval]);(try simp[e, *]);(try exact wkc)))
 ·try refine xst ?_
  refine caP (zyv f b hl) ?_
  try refine xst ?_
  refine cI (fun h2 => ?_) fun h2 => ?_
  ·have e:zl9 R f a b=(atV f b).2:=by
    rcases key with k|k|k
    ·exact absurd h1 k.1
    ·exact k.2.2
    ·exact absurd k.2.1 h2
   try refine xst ?_
   (first|(refine zar rfl (Wk.of ?_);(try simp(etaStruct := .none)only[push_cast,zab,seval]);first|done|(simp[e, *];done)|(simp_all[e];done))|(refine zar rfl ?_;(try simp(etaStruct := .none)only[push_cast,zab,seval]);(try simp[e, *]);(try exact wkc)))
  ·try refine xst ?_
   refine cI (fun h3 => ?_) fun h3 => ?_
   ·have e:zl9 R f a b=9:=by
     rcases key with k|k|k
     ·exact absurd h1 k.1
     ·exact absurd h2 k.2.1
     ·exact k.2.2.1
    try refine xst ?_
    (first|(refine zar rfl (Wk.of ?_);(try simp(etaStruct := .none)only[push_cast,zab,seval]);first|done|(simp[e, *];done)|(simp_all[e];done))|(refine zar rfl ?_;(try simp(etaStruct := .none)only[push_cast,zab,seval]);(try simp[e, *]);(try exact wkc)))
   ·exfalso
    rcases key with k|k|k
    ·exact absurd h1 k.1
    ·exact absurd h2 k.2.1
    ·have:=k.2.2.2;omega
def zcp (f:Fld) (a b:Cel):List Int × List Nod:=zk2 f b 8001 (List.replicate f.p.length (-1)) (zdp Nod.all [] ⟨a,0,0+zbf b a⟩)
theorem yij (f:Fld) (x:Nod) (h:f.p.length≤1600):muS f (List.replicate f.p.length (-1)) (zdp Nod.all [] x)≤8001:=by
 unfold muS;rw[zlu];simp only[List.length_nil];omega
theorem As0 {f:Fld} {W H:Nat} (hw:f.w=(W:Int)) (hh:f.h=(H:Int)) (hW:0<W) (hf:zbk f=0) (b:Cel) {a:Cel} (ha:inF f a=true):As W f.p (zal f a) (fun n=>zbf b (zdv W n)) (List.replicate f.p.length (-1)) (zdp Nod.all [] ⟨a,0,0+zbf b a⟩) fun _ _=>True:=by
 obtain⟨e,hlt⟩:=zbi hw hh hW hf ha
 have:=As.start (W:=W) (pl:=f.p) (a:=zal f a) (hh:=fun n=>zbf b (zdv W n)) hlt
 rw[←e]at this
 exact this
theorem ybs {f:Fld} (hf:zbk f=0):∃W H:Nat,f.w=(W:Int)∧f.h=(H:Int)∧0<W∧f.p.length=W*H:=by
 obtain⟨⟨w1,w2⟩,⟨w3,w4⟩,wl,wp⟩:=zbc hf
 obtain⟨W,hW⟩:∃W:Nat,f.w=(W:Int):=Int.eq_ofNat_of_zero_le (by omega)
 obtain⟨H,hH⟩:∃H:Nat,f.h=(H:Int):=Int.eq_ofNat_of_zero_le (by omega)
 exact⟨W,H,hW,hH,by omega,by rw[hW,hH]at wl;exact_mod_cast wl⟩
structure Srch (f : Fld) (a b : Cel) (R : List Int) (W H : Nat) : Prop where
 w:f.w=(W:Int)
 h:f.h=(H:Int)
 w0:0<W
 l:f.p.length=W*H
 r:Flood W f.p [zal f a] R
 ass:As W f.p (zal f a) (fun n=>zbf b (zdv W n)) (zcp f a b).1 (zcp f a b).2 fun _ _=>True
 no:¬goB f b (zcp f a b).1 (zcp f a b).2
theorem yge {f:Fld} {a b:Cel} {R:List Int} (hf:zbk f=0) (ha:inF f a=true) (hpa:zah f a≠1) (hR:zas f [a] R):∃W H,Srch f a b R W H:=by
 obtain⟨W,H,hw,hh,hW,hL⟩:=ybs hf
 have hA:=yd0 hw hh hW hf hL b 8001 _ _ (As0 hw hh hW hf b ha) (yij f _ (za5 hf ha).2.2.2.2)
 have hlt:=(zbi hw hh hW hf ha).2
 obtain⟨F,hF⟩:=z6k (W:=W) (pl:=f.p) (s := [zal f a]) hW (za5 hf ha).2.2.2.2 (by intro p hp;rw[List.mem_singleton]at hp;rw[hp];exact hlt)
 have e:zrf f [a]=0:=by
  unfold zrf ygf ygf
  rw[if_neg (by simp[hf]),if_neg (by simp),if_pos ha,if_neg hpa]
 have:=hR.1 e F (by rw[hw,Int.toNat_natCast];exact hF)
 subst this
 exact⟨W,H,hw,hh,hW,hL,hF,hA.1,hA.2⟩
theorem Srch.end {f:Fld} {a b:Cel} {R:List Int} {W H:Nat} (s:Srch f a b R W H) (hf:zbk f=0) (ha:inF f a=true) (hb:inF f b=true):((zcp f a b).1.getD (zal f b) default<0↔R.getD (zal f b) default<0)∧(0≤R.getD (zal f b) default→(zcp f a b).1.getD (zal f b) default=R.getD (zal f b) default∧∀x∈(zcp f a b).2,R.getD (zal f b) default<x.all):=by
 have hcons:=zor s.w s.h s.w0 b
 rw[←s.l]at hcons
 have haL:=(zbi s.w s.h s.w0 hf ha).2
 have hbL:=(zbi s.w s.h s.w0 hf hb).2
 have h1:∀h:0≤(zcp f a b).1.getD (zal f b) default,(zcp f a b).1.getD (zal f b) default=R.getD (zal f b) default:=fun h=>s.ass.same hcons haL s.r hbL h
 have h2:(zcp f a b).1.getD (zal f b) default<0→R.getD (zal f b) default<0:=fun h=>by
  rcases Int.lt_or_le (R.getD (zal f b) default) 0 with h3|h3
  ·exact h3
  ·have hq:(zcp f a b).2 = []:=by
    have:=s.no
    unfold goB at this
    cases hq:(zcp f a b).2 with
    | nil=>rfl
    | cons x r=>exact absurd ⟨by rw[hq];simp,.inl h⟩ this
   have:=s.ass.known hcons haL s.r hbL h3 (by rw[hq];intro x hx;simp at hx)
   omega
 refine⟨⟨h2,fun h => ?_⟩,fun h => ?_⟩
 ·rcases Int.lt_or_le ((zcp f a b).1.getD (zal f b) default) 0 with h3|h3
  ·exact h3
  ·have:=h1 h3;omega
 ·have h3:0≤(zcp f a b).1.getD (zal f b) default:=by
   rcases Int.lt_or_le ((zcp f a b).1.getD (zal f b) default) 0 with h3|h3
   ·have:=h2 h3;omega
   ·exact h3
  have h4:=h1 h3
  refine⟨h4,fun x hx => ?_⟩
  obtain⟨k,hk,rfl⟩:=mem_getD.1 hx
  have hle:=zos _ s.ass.heap k hk
  have:=s.no
  unfold goB at this
  rw[h4]at this
  rcases Int.lt_or_le (R.getD (zal f b) default) ((zcp f a b).2.getD k default).all with h5|h5
  ·exact h5
  ·exact absurd ⟨by omega,.inr (by omega)⟩ this
theorem zpz (f:Fld) (a b:Cel) (hl:f.p.length≤9223372036854775807) {R:List Int} (hf:zbk f=0) (ha:inF f a=true) (hb:inF f b=true) (hpa:zah f a≠1) (hpb:zah f b≠1) (hR:zas f [a] R) (h0:R.getD (zal f b) default<0):Spec Tryz.prog 160 [zy6 f,zgw a,zgw b] [] (.tup [.c (.v (.pointer none)),I .i64 6]) []:=by
 obtain⟨W,H,s⟩:=yge (b:=b) hf ha hpa hR
 have hend:=s.end hf ha hb
 obtain⟨hw,hh,hW,hL,hFl,hAe,_⟩:=s
 have hA0:=As0 hw hh hW hf b ha
 have hmu0:=yij f ⟨a,0,0+zbf b a⟩ (za5 hf ha).2.2.2.2
 have hai:=inF_iff.1 ha
 have hbi:=inF_iff.1 hb
 have hfo:=zbc hf
 have hpx:=za5 hf ha
 have hrunS:zk2 f b 8001 (List.replicate f.p.length (-1)) (zdp Nod.all [] ⟨a,0,0+zbf b a⟩)=zcp f a b:=rfl
 have hbF:zal f b<(zcp f a b).1.length:=by rw[hAe.len];exact(zbi hw hh hW hf hb).2
 refine spB Tryz.func160 61 [.tmp 6,.tmp 7] Tryz.results160 ?_
 iterate 2(try simp(etaStruct := .none)only[push_cast,zab,seval,Int.ofNat_zero,hrunS,zaa _ _ _ hbF,zad];try refine xsu ?_)
 refine caP (zyv f a hl) ?_
 rw[znp hf,if_pos ha]
 iterate 2(try simp(etaStruct := .none)only[push_cast,zab,seval,Int.ofNat_zero,hrunS,zaa _ _ _ hbF,zad];try refine xsu ?_)
 refine cI (fun h1 => ?_) fun h1 => ?_
 ·exact absurd h1 (by decide)
 ·iterate 2(try simp(etaStruct := .none)only[push_cast,zab,seval,Int.ofNat_zero,hrunS,zaa _ _ _ hbF,zad];try refine xsu ?_)
  refine caP (zyv f b hl) ?_
  rw[znp hf,if_pos hb]
  iterate 2(try simp(etaStruct := .none)only[push_cast,zab,seval,Int.ofNat_zero,hrunS,zaa _ _ _ hbF,zad];try refine xsu ?_)
  refine cI (fun h2 => ?_) fun h2 => ?_
  ·exact absurd h2 (by decide)
  ·iterate 2(try simp(etaStruct := .none)only[push_cast,zab,seval,Int.ofNat_zero,hrunS,zaa _ _ _ hbF,zad];try refine xsu ?_)
   refine cI (fun h3 => ?_) fun h3 => ?_
   ·rcases h3 with h3|h3
    ·exact absurd h3 hpa
    ·exact absurd h3 hpb
   ·iterate 2(try simp(etaStruct := .none)only[push_cast,zab,seval,Int.ofNat_zero,hrunS,zaa _ _ _ hbF,zad];try refine xsu ?_)
    refine zfv [11] (zut f.p.length (by omega) (by omega)) (WkL.refl _) rfl (by decide) (by simp[zbw,zfb,zrw]) ?_
    iterate 2(try simp(etaStruct := .none)only[push_cast,zab,seval,Int.ofNat_zero,hrunS,zaa _ _ _ hbF,zad];try refine xsu ?_)
    (try(refine⟨by kernel_rfl,?_⟩))
    iterate 2(try simp(etaStruct := .none)only[push_cast,zab,seval,Int.ofNat_zero,hrunS,zaa _ _ _ hbF,zad];try refine xsu ?_)
    refine caM [35,27] (zu2 f b (List.replicate f.p.length (-1)) a 0 (by omega) (by omega) (by omega) (by omega) (by omega)) ?_
    iterate 2(try simp(etaStruct := .none)only[push_cast,zab,seval,Int.ofNat_zero,hrunS,zaa _ _ _ hbF,zad];try refine xsu ?_)
    refine caM [35,27,43] (z78 f b hw hh hW hf hL hb (zal f a) 8001 (List.replicate f.p.length (-1)) (zdp Nod.all [] ⟨a,0,0+zbf b a⟩) hA0 hmu0 (by decide)) ?_
    iterate 2(try simp(etaStruct := .none)only[push_cast,zab,seval,Int.ofNat_zero,hrunS,zaa _ _ _ hbF,zad];try refine xsu ?_)
    refine zcl (zef f b (zcp f a b).1 (zcp f a b).2 b hf hb) (WkL.refl _) rfl ?_
    iterate 2(try simp(etaStruct := .none)only[push_cast,zab,seval,Int.ofNat_zero,hrunS,zaa _ _ _ hbF,zad];try refine xsu ?_)
    (try(refine⟨by kernel_rfl,?_⟩))
    iterate 2(try simp(etaStruct := .none)only[push_cast,zab,seval,Int.ofNat_zero,hrunS,zaa _ _ _ hbF,zad];try refine xsu ?_)
    refine cI (fun h4 => ?_) fun h4 => ?_
    ·iterate 2(try simp(etaStruct := .none)only[push_cast,zab,seval,Int.ofNat_zero,hrunS,zaa _ _ _ hbF,zad];try refine xsu ?_)
     exact xrz rfl
    ·exact absurd (hend.1.2 h0) (by omega)
theorem zsh (f:Fld) (a b:Cel) (hl:f.p.length≤9223372036854775807) {R:List Int} (hf:zbk f=0) (ha:inF f a=true) (hb:inF f b=true) (hpa:zah f a≠1) (hpb:zah f b≠1) (hR:zas f [a] R) (h0:0≤R.getD (zal f b) default):Spec Tryz.prog 160 [zy6 f,zgw a,zgw b] [] (.tup [.ptr 0 0 0,I .i64 0]) [srB f b (.own 1) (.own 2),.row 3 1 ((zcp f a b).1.map zad),.row 327 4 ((zcp f a b).2.map zbv)]:=by
 obtain⟨W,H,s⟩:=yge (b:=b) hf ha hpa hR
 have hend:=s.end hf ha hb
 obtain⟨hw,hh,hW,hL,hFl,hAe,_⟩:=s
 have hA0:=As0 hw hh hW hf b ha
 have hmu0:=yij f ⟨a,0,0+zbf b a⟩ (za5 hf ha).2.2.2.2
 have hai:=inF_iff.1 ha
 have hbi:=inF_iff.1 hb
 have hfo:=zbc hf
 have hpx:=za5 hf ha
 have hrunS:zk2 f b 8001 (List.replicate f.p.length (-1)) (zdp Nod.all [] ⟨a,0,0+zbf b a⟩)=zcp f a b:=rfl
 have hbF:zal f b<(zcp f a b).1.length:=by rw[hAe.len];exact(zbi hw hh hW hf hb).2
 refine spB Tryz.func160 61 [.tmp 6,.tmp 7] Tryz.results160 ?_
 iterate 2(try simp(etaStruct := .none)only[push_cast,zab,seval,Int.ofNat_zero,hrunS,zaa _ _ _ hbF,zad];try refine xsu ?_)
 refine caP (zyv f a hl) ?_
 rw[znp hf,if_pos ha]
 iterate 2(try simp(etaStruct := .none)only[push_cast,zab,seval,Int.ofNat_zero,hrunS,zaa _ _ _ hbF,zad];try refine xsu ?_)
 refine cI (fun h1 => ?_) fun h1 => ?_
 ·exact absurd h1 (by decide)
 ·iterate 2(try simp(etaStruct := .none)only[push_cast,zab,seval,Int.ofNat_zero,hrunS,zaa _ _ _ hbF,zad];try refine xsu ?_)
  refine caP (zyv f b hl) ?_
  rw[znp hf,if_pos hb]
  iterate 2(try simp(etaStruct := .none)only[push_cast,zab,seval,Int.ofNat_zero,hrunS,zaa _ _ _ hbF,zad];try refine xsu ?_)
  refine cI (fun h2 => ?_) fun h2 => ?_
  ·exact absurd h2 (by decide)
  ·iterate 2(try simp(etaStruct := .none)only[push_cast,zab,seval,Int.ofNat_zero,hrunS,zaa _ _ _ hbF,zad];try refine xsu ?_)
   refine cI (fun h3 => ?_) fun h3 => ?_
   ·rcases h3 with h3|h3
    ·exact absurd h3 hpa
    ·exact absurd h3 hpb
   ·iterate 2(try simp(etaStruct := .none)only[push_cast,zab,seval,Int.ofNat_zero,hrunS,zaa _ _ _ hbF,zad];try refine xsu ?_)
    refine zfv [11] (zut f.p.length (by omega) (by omega)) (WkL.refl _) rfl (by decide) (by simp[zbw,zfb,zrw]) ?_
    iterate 2(try simp(etaStruct := .none)only[push_cast,zab,seval,Int.ofNat_zero,hrunS,zaa _ _ _ hbF,zad];try refine xsu ?_)
    (try(refine⟨by kernel_rfl,?_⟩))
    iterate 2(try simp(etaStruct := .none)only[push_cast,zab,seval,Int.ofNat_zero,hrunS,zaa _ _ _ hbF,zad];try refine xsu ?_)
    refine caM [35,27] (zu2 f b (List.replicate f.p.length (-1)) a 0 (by omega) (by omega) (by omega) (by omega) (by omega)) ?_
    iterate 2(try simp(etaStruct := .none)only[push_cast,zab,seval,Int.ofNat_zero,hrunS,zaa _ _ _ hbF,zad];try refine xsu ?_)
    refine caM [35,27,43] (z78 f b hw hh hW hf hL hb (zal f a) 8001 (List.replicate f.p.length (-1)) (zdp Nod.all [] ⟨a,0,0+zbf b a⟩) hA0 hmu0 (by decide)) ?_
    iterate 2(try simp(etaStruct := .none)only[push_cast,zab,seval,Int.ofNat_zero,hrunS,zaa _ _ _ hbF,zad];try refine xsu ?_)
    refine zcl (zef f b (zcp f a b).1 (zcp f a b).2 b hf hb) (WkL.refl _) rfl ?_
    iterate 2(try simp(etaStruct := .none)only[push_cast,zab,seval,Int.ofNat_zero,hrunS,zaa _ _ _ hbF,zad];try refine xsu ?_)
    (try(refine⟨by kernel_rfl,?_⟩))
    iterate 2(try simp(etaStruct := .none)only[push_cast,zab,seval,Int.ofNat_zero,hrunS,zaa _ _ _ hbF,zad];try refine xsu ?_)
    refine cI (fun h4 => ?_) fun h4 => ?_
    ·exact absurd (hend.1.1 h4) (by omega)
    ·iterate 2(try simp(etaStruct := .none)only[push_cast,zab,seval,Int.ofNat_zero,hrunS,zaa _ _ _ hbF,zad];try refine xsu ?_)
     refine zcc [35,27,44] rfl rfl (by decide) ⟨?_,?_,?_,trivial⟩ trivial ?_<;>simp(etaStruct := .none)only[push_cast,zab,seval]
end Go.Proofs.YtmjbgbmegbkmhaaGreat
namespace Go.Proofs.YtmjbgbmegbkmhaaGreat
set_option linter.all false
open Go.RowKit
set_option maxRecDepth 100000
set_option maxHeartbeats 1000000
def z20 (l:List Sea) (T:List Nat):List Sea:=(List.range l.length).map fun i=>⟨(l.getD i default).waits.drop (T.getD i default),(zbp (l.getD i default)).late,(l.getD i default).gone⟩
theorem z2z (l:List Sea) (T:List Nat):(z20 l T).length=l.length:=by simp[z20]
theorem z6s (l:List Sea) (T:List Nat) (i:Nat) (h:i<l.length):(z20 l T).getD i default=⟨(l.getD i default).waits.drop (T.getD i default),(zbp (l.getD i default)).late,(l.getD i default).gone⟩:=by
 rw[zac _ _ (by rw[z2z];exact h)]
 simp[z20]
theorem zek {α : Type} [Inhabited α] {l m:List α} (h:l.length=m.length) (h2:∀i,i<l.length→l.getD i default=m.getD i default):l=m:=by
 refine List.ext_getElem h fun i i1 i2 => ?_
 have:=h2 i i1
 rwa [zac _ _ i1,zac _ _ i2]at this
theorem zge {α : Type} [Inhabited α] (l:List α) (i j:Nat) (x : α) (h:i<l.length):(l.set i x).getD j default=if i=j then x else l.getD j default:=by
 by_cases e:i=j
 ·subst e;rw[if_pos rfl,zac _ _ (by simpa using h)];simp
 ·rw[if_neg e,List.getD_eq_getElem?_getD,List.getElem?_set_ne e,List.getD_eq_getElem?_getD]
def TkQ (most:Int) (l:List Sea) (k i:Nat) (o:List Ord) (U:List Nat):Prop :=
 U.length=l.length∧o.length≤100∧(∀j,j<l.length→U.getD j default≤(l.getD j default).waits.length) ∧
 ((o.length:Int)<most→∀j,j<l.length→U.getD j default=if j<i then min (k+1) (l.getD j default).waits.length else min k (l.getD j default).waits.length)
theorem TkQ.t {most:Int} {l:List Sea} {k i:Nat} {o:List Ord} {U:List Nat} (h:TkQ most l k i o U) (hi:i<l.length) (hk:k<(l.getD i default).waits.length) (hm:(o.length:Int)<most) (hm2:most≤100) (x:Ord) :
 U.getD i default=k∧TkQ most l k (i+1) (o ++ [x]) (U.set i (k+1)):=by
 obtain⟨h1,h2,h3,h4⟩:=h
 have e:=h4 hm i hi
 rw[if_neg (by omega),Nat.min_eq_left (by omega)]at e
 refine⟨e,by simp[h1],by simp;omega,fun j hj => ?_,fun hm' j hj => ?_⟩
 ·rw[zge _ _ _ _ (by omega)]
  split
  ·rename_i e';subst e';omega
  ·exact h3 j hj
 ·have:=h4 hm j hj
  rw[zge _ _ _ _ (by omega)]
  by_cases e':i=j
  ·subst e';rw[if_pos rfl,if_pos (by omega)];omega
  ·rw[if_neg e',this]
   by_cases e2:j<i
   ·rw[if_pos e2,if_pos (by omega)]
   ·rw[if_neg e2,if_neg (by omega)]
theorem TkQ.f {most:Int} {l:List Sea} {k i:Nat} {o:List Ord} {U:List Nat} (h:TkQ most l k i o U) (hi:i<l.length) (hc:¬(k<(l.getD i default).waits.length∧(o.length:Int)<most)):TkQ most l k (i+1) o U∧¬(0<((z20 l U).getD i default).waits.length∧(o.length:Int)<most):=by
 obtain⟨h1,h2,h3,h4⟩:=h
 refine⟨⟨h1,h2,h3,fun hm j hj => ?_⟩,?_⟩
 ·rw[h4 hm j hj]
  by_cases e:j=i
  ·subst e;rw[if_neg (by omega),if_pos (by omega)];omega
  ·by_cases e2:j<i
   ·rw[if_pos e2,if_pos (by omega)]
   ·rw[if_neg e2,if_neg (by omega)]
 ·rw[z6s _ _ _ hi]
  simp only[List.length_drop]
  rintro⟨h5,h6⟩
  have:=h4 h6 i hi
  rw[if_neg (by omega)]at this
  omega
theorem TkQ.next {most:Int} {l:List Sea} {k:Nat} {o:List Ord} {U:List Nat} (h:TkQ most l k l.length o U):TkQ most l (k+1) 0 o U:=by
 obtain⟨h1,h2,h3,h4⟩:=h
 refine⟨h1,h2,h3,fun hm j hj => ?_⟩
 rw[h4 hm j hj,if_pos hj,if_neg (by omega)]
theorem TkQ.zero (most:Int) (l:List Sea):TkQ most l 0 0 [] (List.replicate l.length 0):=by
 refine⟨by simp,by simp,fun j hj => ?_,fun _ j hj => ?_⟩<;>rw[zac _ _ (by simpa using hj)]<;>simp
end Go.Proofs.YtmjbgbmegbkmhaaGreat
namespace Go.Proofs.YtmjbgbmegbkmhaaGreat
set_option linter.all false
open Go.RowKit
set_option maxRecDepth 100000
set_option maxHeartbeats 2000000
def zsn {α : Type} [Inhabited α] (k:Nat) (l:List α):List α := (List.range l.length).map fun i=>if i<k∨l.length-k≤i then l.getD (l.length-1-i) default else l.getD i default
theorem zdy {α : Type} [Inhabited α] (k:Nat) (l:List α):(zsn k l).length=l.length:=by simp[zsn]
theorem zgf {α : Type} [Inhabited α] (k:Nat) (l:List α) (i:Nat) (hi:i<l.length):(zsn k l).getD i default=if i<k∨l.length-k≤i then l.getD (l.length-1-i) default else l.getD i default:=by
 rw[zac _ _ (by rw[zdy];exact hi)];simp[zsn]
theorem z0h {α : Type} [Inhabited α] (l:List α):zsn 0 l=l:=by
 refine zek (zdy 0 l) fun i hi => ?_
 rw[zdy]at hi
 rw[zgf 0 l i hi,if_neg (by omega)]
theorem z0i {α : Type} [Inhabited α] (l:List α) (k:Nat) (h:2*k+1<l.length):zsn (k+1) l=((zsn k l).set k ((zsn k l).getD (l.length-1-k) default)).set (l.length-1-k) ((zsn k l).getD k default):=by
 have hrl:=zdy k l
 refine zek (by simp[zdy]) fun i hi => ?_
 rw[zdy]at hi
 rw[zge _ _ _ _ (by rw[List.length_set];omega),zge _ _ _ _ (by omega),zgf _ l i hi,zgf k l k (by omega),zgf k l (l.length-1-k) (by omega),zgf k l i hi]
 rw[if_neg (show ¬(l.length-1-k<k∨l.length-k≤l.length-1-k)by omega),if_neg (show ¬(k<k∨l.length-k≤k)by omega)]
 by_cases e1:l.length-1-k=i
 ·rw[if_pos e1,if_pos (by omega)];congr 1;omega
 ·rw[if_neg e1]
  by_cases e2:k=i
  ·rw[if_pos e2,if_pos (by omega)];congr 1;omega
  ·rw[if_neg e2]
   by_cases e3:i<k∨l.length-k≤i
   ·rw[if_pos e3,if_pos (by omega)]
   ·rw[if_neg e3,if_neg (by omega)]
theorem z40 {α : Type} [Inhabited α] (l:List α) (k:Nat) (h:l.length≤2*k+1):zsn k l=l.reverse:=by
 refine zek (by rw[zdy,List.length_reverse]) fun i hi => ?_
 rw[zdy]at hi
 rw[zgf k l i hi,zac _ _ (show i<l.reverse.length by simpa using hi),List.getElem_reverse,←zac l _ (show l.length-1-i<l.length by omega)]
 by_cases e3:i<k∨l.length-k≤i
 ·rw[if_pos e3]
 ·rw[if_neg e3];congr 1;omega
theorem yb9 (l:List Cel) (hl:l.length≤1000000):Spec Tryz.prog 164 [.own 0] [.row 46 2 (l.map za2)] (.tup []) [.row 46 2 (l.reverse.map za2)]:=by
 refine spB Tryz.func164 28 [] Tryz.results164 ?_
 try refine xst ?_
 refine zaw (fun k:Nat=>⟨[(3,I .i64 ((l.length:Int)-1-k)),(2,I .i64 k),(0,.own 0)],[(0,.row 46 2 ((zsn k l).map za2))],1⟩) (fun k:Nat=>2*k≤l.length) (fun k:Nat=>l.length-k) (0) (Nat.zero_le _) (To.mk [0] rfl rfl (by decide) ?_ ?_) ?_
 ·simp(etaStruct := .none)only[push_cast,zab,seval,z0h]
 ·(iterate 2((try simp(etaStruct := .none)only[push_cast,zab,seval,Int.ofNat_zero,Int.sub_zero]);(try(refine xsu ?_;try exact xtI))))
 rintro k hk
 have hrl:=zdy k l
 try refine xst ?_
 refine cI (fun h1 => ?_) fun h1 => ?_
 ·obtain⟨j,hj⟩:∃j:Nat,(l.length:Int)-1-k=(j:Int):=Int.eq_ofNat_of_zero_le (by omega)
  have hjn:j=l.length-1-k:=by omega
  have hs:=z0i l k (by omega)
  rw[←hjn]at hs
  have hk1:k<(zsn k l).length:=by omega
  have hj1:j<(zsn k l).length:=by omega
  have hj2:j<((zsn k l).set k ((zsn k l).getD j default)).length:=by rw[List.length_set];omega
  iterate 2(try simp(etaStruct := .none)only[push_cast,zab,seval,hj,zaa _ _ _ hk1,zaa _ _ _ hj1,za2,List.length_set];try refine xsu ?_)
  (try(refine⟨by kernel_rfl,?_⟩))
  iterate 2(try simp(etaStruct := .none)only[push_cast,zab,seval,hj,zaa _ _ _ hk1,zaa _ _ _ hj1,za2,List.length_set];try refine xsu ?_)
  refine⟨k+1,by omega,by omega,To.mk [0] rfl rfl (by decide) ?_ ?_⟩
  ·(iterate 2((try simp(etaStruct := .none)only[push_cast,zab,seval,hs,List.map_set,za2]);(try(refine xsu ?_;try exact xtI))))
  ·have e1:(j:Int)-1=(l.length:Int)-1-((k:Int)+1):=by omega
   (try(refine xz1 e1 ?_;try exact xtI))
 ·have hr:=z40 l k (by omega)
  try refine xst ?_
  refine zcc [0] rfl rfl (by decide) ⟨?_,trivial⟩ trivial ?_<;>simp(etaStruct := .none)only[push_cast,zab,seval,hr]
def ygc (R:List Int) (f:Fld) (a b:Cel):Int:=if zl9 R f a b=0 then R.getD (zal f b) default else 0
theorem zw4 (R:List Int) (f:Fld) (a b:Cel):(zl9 R f a b≠0∧(zbk f≠0∨¬(inF f a=true∧inF f b=true)∨zah f a=1∨zah f b=1))∨(zbk f=0∧inF f a=true∧inF f b=true∧zah f a≠1∧zah f b≠1∧((zl9 R f a b=6∧R.getD (zal f b) default<0)∨(zl9 R f a b=0∧0≤R.getD (zal f b) default))):=by
 unfold zl9
 by_cases h1:zbk f=0
 ·rw[if_neg (by simp[h1])]
  by_cases h2:inF f a=true∧inF f b=true
  ·rw[if_neg (fun h=>h h2)]
   by_cases h3:zah f a=1∨zah f b=1
   ·rw[if_pos h3];exact .inl ⟨by decide,.inr (.inr h3)⟩
   ·rw[if_neg h3]
    refine .inr ⟨h1,h2.1,h2.2,fun h=>h3 (.inl h),fun h=>h3 (.inr h),?_⟩
    by_cases h4:R.getD (zal f b) default<0
    ·rw[if_pos h4];exact .inl ⟨rfl,h4⟩
    ·rw[if_neg h4];exact .inr ⟨rfl,by omega⟩
  ·rw[if_pos h2];exact .inl ⟨by decide,.inr (.inl h2)⟩
 ·rw[if_pos h1];exact .inl ⟨h1,.inl h1⟩
end Go.Proofs.YtmjbgbmegbkmhaaGreat
