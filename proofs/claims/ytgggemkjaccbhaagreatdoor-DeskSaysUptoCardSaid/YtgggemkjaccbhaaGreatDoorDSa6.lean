/- Lemmas for the proof of deskSays.proved. -/
import Derived.Test.YtgggemkjaccbhaaGreatDoorDSa5
namespace Go.Proofs.YtgggemkjaccbhaaGreatDoor
set_option linter.all false
open Go.RowKit
set_option maxRecDepth 100000
set_option maxHeartbeats 4000000
structure Blw where
 by_:Int
 at_:Int
 deriving DecidableEq, Inhabited
def zi5 (b:Blw):List PV := [pI b.by_,pI b.at_]
theorem zcu (b:Blw):zi5 b=([pI b.by_,pI b.at_]:List PV):=rfl
structure Gop where
 id:Int
 tw:Cel
 deriving DecidableEq, Inhabited
def zio (g:Gop):List PV := [pI g.id,pI g.tw.x,pI g.tw.y]
theorem zb0 (g:Gop):zio g=([pI g.id,pI g.tw.x,pI g.tw.y]:List PV):=rfl
structure Ded where
 kind:Int
 who:Int
 c:Cel
 what:Int
 deriving DecidableEq, Inhabited
def zpk (d:Ded):List PV := [pI d.kind,pI d.who,pI d.c.x,pI d.c.y,pI d.what]
theorem zjg (d:Ded):zpk d=([pI d.kind,pI d.who,pI d.c.x,pI d.c.y,pI d.what]:List PV):=rfl
def zcc (w:Wld) (i:Int):Option Trp:=w.troops.find? fun t=>decide (t.id=i)
def ztk:Trp:=⟨0,0,0,⟨0,0⟩,0,0⟩
theorem zkv {α : Type} [Inhabited α] (p : α → Bool) (l:List α) (k:Nat) (h:k<l.length) (hp:p (l.getD k default)=true) (hn:∀j,j<k→p (l.getD j default)=false):l.find? p=some (l.getD k default):=by
 induction l generalizing k with
 | nil=>simp at h
 | cons a r ih =>
  cases k with
  | zero=>simp only[List.getD_cons_zero]at hp ⊢;rw[List.find?_cons,hp]
  | succ k =>
   have h0:=hn 0 (by omega)
   simp only[List.getD_cons_zero]at h0
   rw[List.find?_cons,h0]
   simp only[List.getD_cons_succ]at hp ⊢
   exact ih k (by simpa using h) hp (fun j hj=>by have:=hn (j+1) (by omega);simpa using this)
theorem zo6 {α : Type} [Inhabited α] (p : α → Bool) (l:List α) (hn:∀j,j<l.length→p (l.getD j default)=false):l.find? p=none:=by
 rw[List.find?_eq_none]
 intro x hx
 obtain⟨i,hi,rfl⟩:=List.getElem_of_mem hx
 have:=hn i hi
 rw[zaq _ _ hi]at this
 simp[this]
theorem znn (w:Wld) (i:Int) (hl:zd4 w):Spec Tryz.prog 135 [zcf w,I .i64 i] [] (.tup [z3p ((zcc w i).getD ztk),B (zcc w i).isSome]) []:=by
 obtain⟨l1,l2,l3,l4,l5⟩:=hl
 refine spB Tryz.func135 22 [.cell 4 89,.tmp 5] Tryz.results135 ?_
 try refine xst ?_
 refine zay (fun k:Nat=>⟨[(11,I .i64 k),(10,I .i64 w.troops.length),(9,.c (.sl 7 (w.troops.map zch))),(4,.ptr 0 0 0),(1,I .i64 i)],[(0,.blk 89 [I .i64 0,I .i64 0,I .i64 0,I .i64 0,I .i64 0,I .i64 0,I .i64 0])],1⟩) (fun k:Nat=>k≤w.troops.length∧∀j,j<k→decide ((w.troops.getD j default).id=i)=false) (fun k:Nat=>w.troops.length-k) (0) (⟨Nat.zero_le _,fun j h=>by omega⟩) (To.mk [1] rfl rfl (by decide) ?_ ?_) ?_
 ·exact xS
 ·exact xS
 rintro k ⟨hk,hn⟩
 try refine xst ?_
 refine zcd (fun h1=>?_) (fun h1=>?_)
 ·(try replace h1:=xhh h1)
  have hlt:k<w.troops.length:=by omega
  try refine xz2 (gd hlt) zac ?_
  refine cI (fun h2=>?_) fun h2=>?_
  ·have e:zcc w i=some (w.troops.getD k default):=zkv _ _ k hlt (by simpa using h2) (fun j hj=>by simpa using hn j hj)
   try refine xz2 (gd hlt) zac ?_
   refine zfm rfl (by repeat' (first|exact trivial|exact rfl|refine⟨?_,?_⟩)) (Wk.of ?_)
   rw[e];simp(etaStruct := .none)only[push_cast,zad,seval]
   try rfl
  ·try refine xz2 (gd hlt) zac ?_
   refine⟨k+1,⟨by omega,fun j hj=>by
 rcases Nat.lt_or_ge j k with h|h
 ·simpa using hn j h
 ·rw[show j=k by omega];simpa using h2⟩,by omega,To.mk [0] rfl rfl (by decide) ?_ ?_⟩
   ·(try(refine xz2 (gd hlt) zac ?_;try exact xtI))
   ·(try(refine xz2 (gd hlt) zac ?_;try exact xtI))
 ·(try replace h1:=xhh h1)
  have e:zcc w i=none:=zo6 _ _ (fun j hj=>by simpa using hn j (by omega))
  try refine xst ?_
  refine zfm rfl (by repeat' (first|exact trivial|exact rfl|refine⟨?_,?_⟩)) (Wk.of ?_)
  rw[e];simp(etaStruct := .none)only[push_cast,zad,seval]
  try rfl
def zce (o:Ord) (w:Wld):Bool:=if o.kind=5 then decide (o.by_<w.bases.length)else match zcc w o.who with|some t=>decide (t.owner=o.by_)|none=>false
theorem zx9 (o:Ord) (w:Wld) (hl:zd4 w):Spec Tryz.prog 93 [zmu o,zcf w] [] (B (zce o w)) []:=by
 refine spB Tryz.func93 31 [.tmp 4] Tryz.results93 ?_
 try refine xst ?_
 refine cI (fun h1=>?_) fun h1=>?_
 ·have e:zce o w=decide (o.by_<w.bases.length):=by unfold zce;rw[if_pos h1]
  try refine xst ?_
  exact zcw e rfl
 ·have e:zce o w=((zcc w o.who).isSome&&decide (((zcc w o.who).getD ztk).owner=o.by_)):=by
   unfold zce;rw[if_neg (by simpa using h1)];cases zcc w o.who<;>rfl
  try refine xst ?_
  refine caP (znn w o.who hl) ?_
  try refine xst ?_
  exact zcw e rfl
def zyc (o:Ord):List Blw:=if o.kind=1 then [⟨o.who,o.what⟩]else []
def zyb (o:Ord):List Gop:=if o.kind=2 then [⟨o.who,o.c⟩]else []
def zvu (o:Ord):Ded:=⟨o.kind-2,if o.kind=5 then o.by_ else o.who,o.c,o.what⟩
theorem ynq (o:Ord):zvu o=(⟨o.kind-2,if o.kind=5 then o.by_ else o.who,o.c,o.what⟩:Ded):=rfl
def ztg (o:Ord):List Ded:=if 2<o.kind then [zvu o]else []
def zb1 (l:List Ord) (w:Wld):List Blw:=(l.filter fun o=>zce o w).flatMap zyc
theorem yk3 (l:List Ord) (w:Wld):zb1 l w=((l.filter fun o=>zce o w).flatMap zyc:List Blw):=rfl
def zcz (l:List Ord) (w:Wld):List Gop:=(l.filter fun o=>zce o w).flatMap zyb
theorem ynh (l:List Ord) (w:Wld):zcz l w=((l.filter fun o=>zce o w).flatMap zyb:List Gop):=rfl
def zb4 (l:List Ord) (w:Wld):List Ded:=(l.filter fun o=>zce o w).flatMap ztg
theorem yk0 (l:List Ord) (w:Wld):zb4 l w=((l.filter fun o=>zce o w).flatMap ztg:List Ded):=rfl
theorem zgp {α : Type} (p:Ord→Bool) (f:Ord→List α) (l:List Ord) (k:Nat) (h:k<l.length):((l.take (k+1)).filter p).flatMap f=((l.take k).filter p).flatMap f++(if p (l.getD k default)then f (l.getD k default)else []):=by
 rw[zxt p l k h]
 split<;>simp
theorem zei {α : Type} (p:Ord→Bool) (f:Ord→List α) (hf:∀o,(f o).length≤1):∀l:List Ord,((l.filter p).flatMap f).length≤l.length
 | []=>by simp
 | a::r=>by
  have:=zei p f hf r
  have h1:=hf a
  rw[List.filter_cons]
  split
  ·rw[List.flatMap_cons,List.length_append,List.length_cons];omega
  ·rw[List.length_cons];omega
theorem zti (o:Ord):(zyc o).length≤1:=by unfold zyc;split<;>simp
theorem zte (o:Ord):(zyb o).length≤1:=by unfold zyb;split<;>simp
theorem ztf (o:Ord):(ztg o).length≤1:=by unfold ztg;split<;>simp
theorem yg7 (l:List Ord) (w:Wld) (hl:zd4 w) (hll:l.length≤100):Spec Tryz.prog 66 [.c (.sl 6 (l.map zga)),zcf w] [] (.c (.sl 2 ((zb1 l w).map zi5))) []:=by
 refine spB Tryz.func66 32 [.tmp 4] Tryz.results66 ?_
 try refine xst ?_
 refine zay (fun k:Nat=>⟨[(10,I .i64 k),(9,I .i64 l.length),(8,.c (.sl 6 (l.map zga))),(5,.own 1),(3,.ptr 0 0 0)],[(0,.blk 32 (zhe w)),(1,.row 156 2 ((zb1 (l.take k) w).map zi5))],2⟩) (fun k:Nat=>k≤l.length) (fun k:Nat=>l.length-k) (0) (Nat.zero_le _) ((To.nil 5 156 2 rfl).trans (To.mk [0,1] rfl rfl (by decide) ?_ ?_)) ?_
 ·simp(etaStruct := .none)only[push_cast,zad,seval,zb1,List.filter_nil,List.flatMap_nil]
 ·exact xS
 rintro k hk
 try refine xst ?_
 refine cI (fun h1=>?_) fun h1=>?_
 ·have hlt:k<l.length:=by omega
  have st:=zgp (fun o=>zce o w) zyc l k hlt
  have hfl:=zei (fun o=>zce o w) zyc zti (l.take k)
  rw[List.length_take]at hfl
  change zb1 (l.take (k+1)) w=zb1 (l.take k) w++_ at st
  change (zb1 (l.take k) w).length≤_ at hfl
  try refine xz2 (gd hlt) zbi ?_
  refine gcP (fun hcc=>zx9 (l.getD k default) w hl) ?_
  try refine xz2 (gd hlt) zbi ?_
  refine cI (fun h2=>?_) fun h2=>?_
  ·have e:zb1 (l.take (k+1)) w=zb1 (l.take k) w ++ [⟨(l.getD k default).who,(l.getD k default).what⟩]:=by rw[st,if_pos h2.2];unfold zyc;rw[if_pos h2.1]
   try refine xz2 (gd hlt) zbi ?_
   refine⟨k+1,by omega,by omega,To.mk [0,4] rfl rfl (by decide) ?_ ?_⟩
   ·(try(refine xz3 e zcu Qp ?_;try exact xtI))
   ·(try(refine xz2 (gd hlt) zbi ?_;try exact xtI))
  ·have e:zb1 (l.take (k+1)) w=zb1 (l.take k) w:=by
    rw[st]
    rcases h2 with h|h
    ·unfold zyc;rw[if_neg h];simp
    ·rw[h];simp
   try refine xz2 (gd hlt) zbi ?_
   refine⟨k+1,by omega,by omega,To.mk [0,1] rfl rfl (by decide) ?_ ?_⟩
   ·(try(refine xz1 e ?_;try exact xtI))
   ·(try(refine xz2 (gd hlt) zbi ?_;try exact xtI))
 ·obtain rfl:k=l.length:=by omega
  try refine xz1 Qx ?_
  exact xrz rfl
theorem yjn (l:List Ord) (w:Wld) (hl:zd4 w) (hll:l.length≤100):Spec Tryz.prog 67 [.c (.sl 6 (l.map zga)),zcf w] [] (.c (.sl 3 ((zcz l w).map zio))) []:=by
 refine spB Tryz.func67 32 [.tmp 4] Tryz.results67 ?_
 try refine xst ?_
 refine zay (fun k:Nat=>⟨[(10,I .i64 k),(9,I .i64 l.length),(8,.c (.sl 6 (l.map zga))),(5,.own 1),(3,.ptr 0 0 0)],[(0,.blk 32 (zhe w)),(1,.row 158 3 ((zcz (l.take k) w).map zio))],2⟩) (fun k:Nat=>k≤l.length) (fun k:Nat=>l.length-k) (0) (Nat.zero_le _) ((To.nil 5 158 3 rfl).trans (To.mk [0,1] rfl rfl (by decide) ?_ ?_)) ?_
 ·simp(etaStruct := .none)only[push_cast,zad,seval,zcz,List.filter_nil,List.flatMap_nil]
 ·exact xS
 rintro k hk
 try refine xst ?_
 refine cI (fun h1=>?_) fun h1=>?_
 ·have hlt:k<l.length:=by omega
  have st:=zgp (fun o=>zce o w) zyb l k hlt
  have hfl:=zei (fun o=>zce o w) zyb zte (l.take k)
  rw[List.length_take]at hfl
  change zcz (l.take (k+1)) w=zcz (l.take k) w++_ at st
  change (zcz (l.take k) w).length≤_ at hfl
  try refine xz2 (gd hlt) zbi ?_
  refine gcP (fun hcc=>zx9 (l.getD k default) w hl) ?_
  try refine xz2 (gd hlt) zbi ?_
  refine cI (fun h2=>?_) fun h2=>?_
  ·have e:zcz (l.take (k+1)) w=zcz (l.take k) w ++ [⟨(l.getD k default).who,(l.getD k default).c⟩]:=by rw[st,if_pos h2.2];unfold zyb;rw[if_pos h2.1]
   try refine xz2 (gd hlt) zbi ?_
   refine⟨k+1,by omega,by omega,To.mk [0,4] rfl rfl (by decide) ?_ ?_⟩
   ·(try(refine xz3 e zb0 Qp ?_;try exact xtI))
   ·(try(refine xz2 (gd hlt) zbi ?_;try exact xtI))
  ·have e:zcz (l.take (k+1)) w=zcz (l.take k) w:=by
    rw[st]
    rcases h2 with h|h
    ·unfold zyb;rw[if_neg h];simp
    ·rw[h];simp
   try refine xz2 (gd hlt) zbi ?_
   refine⟨k+1,by omega,by omega,To.mk [0,1] rfl rfl (by decide) ?_ ?_⟩
   ·(try(refine xz1 e ?_;try exact xtI))
   ·(try(refine xz2 (gd hlt) zbi ?_;try exact xtI))
 ·obtain rfl:k=l.length:=by omega
  try refine xz1 Qx ?_
  exact xrz rfl
theorem yg1 (l:List Ord) (w:Wld) (hl:zd4 w) (hll:l.length≤100) (hk5:∀o∈l,zii o=0):Spec Tryz.prog 68 [.c (.sl 6 (l.map zga)),zcf w] [] (.c (.sl 5 ((zb4 l w).map zpk))) []:=by
 refine spB Tryz.func68 45 [.tmp 4] Tryz.results68 ?_
 try refine xst ?_
 refine zay (fun k:Nat=>⟨[(11,I .i64 k),(10,I .i64 l.length),(9,.c (.sl 6 (l.map zga))),(5,.own 1),(3,.ptr 0 0 0)],[(0,.blk 32 (zhe w)),(1,.row 160 5 ((zb4 (l.take k) w).map zpk))],2⟩) (fun k:Nat=>k≤l.length) (fun k:Nat=>l.length-k) (0) (Nat.zero_le _) ((To.nil 5 160 5 rfl).trans (To.mk [0,1] rfl rfl (by decide) ?_ ?_)) ?_
 ·simp(etaStruct := .none)only[push_cast,zad,seval,zb4,List.filter_nil,List.flatMap_nil]
 ·exact xS
 rintro k hk
 try refine xst ?_
 refine cI (fun h1=>?_) fun h1=>?_
 ·have hlt:k<l.length:=by omega
  have st:=zgp (fun o=>zce o w) ztg l k hlt
  have hfl:=zei (fun o=>zce o w) ztg ztf (l.take k)
  rw[List.length_take]at hfl
  change zb4 (l.take (k+1)) w=zb4 (l.take k) w++_ at st
  change (zb4 (l.take k) w).length≤_ at hfl
  have hor:=zoj (hk5 _ (zax l k hlt))
  try refine xz2 (gd hlt) zbi ?_
  refine gcP (fun hcc=>zx9 (l.getD k default) w hl) ?_
  try refine xz2 (gd hlt) zbi ?_
  refine cI (fun h2=>?_) fun h2=>?_
  ·have e:zb4 (l.take (k+1)) w=zb4 (l.take k) w ++ [zvu (l.getD k default)]:=by rw[st,if_pos h2.2];unfold ztg;rw[if_pos h2.1]
   try refine xz2 (gd hlt) zbi ?_
   refine cI (fun h3=>?_) fun h3=>?_
   ·try refine xz2 (gd hlt) zbi ?_
    refine⟨k+1,by omega,by omega,To.mk [0,5] rfl rfl (by decide) ?_ ?_⟩
    ·(iterate 2((try simp(etaStruct := .none)only[push_cast,zad,seval,e,List.map_append,zpk,zvu,if_pos h3]);(try(refine xsu ?_;try exact xtI))))
    ·(try(refine xz2 (gd hlt) zbi ?_;try exact xtI))
   ·try refine xz2 (gd hlt) zbi ?_
    refine⟨k+1,by omega,by omega,To.mk [0,5] rfl rfl (by decide) ?_ ?_⟩
    ·(iterate 2((try simp(etaStruct := .none)only[push_cast,zad,seval,e,List.map_append,zpk,zvu,if_neg h3]);(try(refine xsu ?_;try exact xtI))))
    ·(try(refine xz2 (gd hlt) zbi ?_;try exact xtI))
  ·have e:zb4 (l.take (k+1)) w=zb4 (l.take k) w:=by
    rw[st]
    rcases h2 with h|h
    ·unfold ztg;rw[if_neg (show ¬2<(l.getD k default).kind by omega)];simp
    ·rw[h];simp
   try refine xz2 (gd hlt) zbi ?_
   refine⟨k+1,by omega,by omega,To.mk [0,1] rfl rfl (by decide) ?_ ?_⟩
   ·(try(refine xz1 e ?_;try exact xtI))
   ·(try(refine xz2 (gd hlt) zbi ?_;try exact xtI))
 ·obtain rfl:k=l.length:=by omega
  try refine xz1 Qx ?_
  exact xrz rfl
theorem zoy (a b:Cel):(zkm a b).length=max (b.x-a.x).natAbs (b.y-a.y).natAbs+1:=by simp[zkm,zau]
theorem ya0 (a:Cel) (sx sy:Int) (X Y k L m:Nat) (hL:L=max X Y) (hm:m=min X Y) (h0:0<L) :
 lpt a sx sy X Y (k+1)=⟨if Y≤X∨2*L≤lr L m k+2*m then (lpt a sx sy X Y k).x+sx else (lpt a sx sy X Y k).x,if X<Y∨2*L≤lr L m k+2*m then (lpt a sx sy X Y k).y+sy else (lpt a sx sy X Y k).y⟩ ∧
 (lr L m (k+1):Int)=if 2*L≤lr L m k+2*m then (lr L m k:Int)+2*m-2*L else lr L m k+2*m:=by
 by_cases h:Y≤X
 ·obtain rfl:L=X:=by omega
  obtain rfl:m=Y:=by omega
  have st:=zse L m k h0 h
  rw[z6f a sx sy L m k h h0,if_pos (show m≤L∨2*L≤lr L m k+2*m from Or.inl h)]
  by_cases hc:2*L≤lr L m k+2*m
  ·rw[if_pos hc,if_pos (show L<m∨2*L≤lr L m k+2*m from Or.inr hc),if_pos hc];exact⟨rfl,by have:=(st.1 hc).2;omega⟩
  ·rw[if_neg hc,if_neg (show ¬(L<m∨2*L≤lr L m k+2*m)by omega),if_neg hc];exact⟨rfl,by have:=(st.2 (by omega)).2;omega⟩
 ·obtain rfl:L=Y:=by omega
  obtain rfl:m=X:=by omega
  have st:=zse L m k h0 (by omega)
  rw[z6e a sx sy m L k (by omega),if_pos (show m<L∨2*L≤lr L m k+2*m from Or.inl (by omega))]
  by_cases hc:2*L≤lr L m k+2*m
  ·rw[if_pos hc,if_pos (show L≤m∨2*L≤lr L m k+2*m from Or.inr hc),if_pos hc];exact⟨rfl,by have:=(st.1 hc).2;omega⟩
  ·rw[if_neg hc,if_neg (show ¬(L≤m∨2*L≤lr L m k+2*m)by omega),if_neg hc];exact⟨rfl,by have:=(st.2 (by omega)).2;omega⟩
theorem zu7 (a:Cel) (sx sy:Int) (X Y:Nat):z12 a sx sy X Y 0 = [a]:=by simp[z12,zm1]
theorem yg5 (a b:Cel) (ha:zeo a=true) (hb:zeo b=true):Spec Tryz.prog 200 [zeu a,zeu b] [] (.tup [.c (.sl 2 ((zkm a b).map zbk)),I .i64 0]) []:=by
 have hx:=zgj ha
 have hy:=zgj hb
 obtain⟨sx,hsx⟩:∃s,s=(b.x-a.x).sign:=⟨_,rfl⟩
 obtain⟨sy,hsy⟩:∃s,s=(b.y-a.y).sign:=⟨_,rfl⟩
 obtain⟨X,hX⟩:∃s,s=(b.x-a.x).natAbs:=⟨_,rfl⟩
 obtain⟨Y,hY⟩:∃s,s=(b.y-a.y).natAbs:=⟨_,rfl⟩
 have gx:=sg (b.x-a.x)
 have gy:=sg (b.y-a.y)
 rw[←hsx]at gx
 rw[←hsy]at gy
 have S1:=zyv (b.x-a.x) (by omega) (by omega)
 have S2:=zyv (b.y-a.y) (by omega) (by omega)
 have hX2:X≤2000:=by omega
 have hY2:Y≤2000:=by omega
 unfold zkm
 rw[←hsx,←hX]at S1 ⊢
 rw[←hsy,←hY]at S2 ⊢
 obtain⟨L,hL⟩:∃L,L=max X Y:=⟨_,rfl⟩
 obtain⟨m,hm⟩:∃m,m=min X Y:=⟨_,rfl⟩
 rw[←hL]
 have LR:=fun k h0=>ym3 L m k h0
 have NR:=fun k hk=>ya1 a sx sy X Y k gx gy hX2 hY2 hk ha
 clear hsx hsy hX hY
 refine spB Tryz.func200 93 [.tmp 4,.tmp 5] Tryz.results200 ?_
 try refine xz1 zau ?_
 refine caP (zzj a (by omega) (by omega)) ?_
 try refine xz1 zau ?_
 refine gcP (fun hcc=>zzj b (by omega) (by omega)) ?_
 try refine xz1 zau ?_
 refine cI (fun h1=>?_) fun h1=>?_
 ·simp[ha,hb]at h1
 ·try refine xz1 zau ?_
  refine caP (S1) ?_
  try refine xz1 zau ?_
  refine caP (S2) ?_
  try refine xz1 zau ?_
  refine zf1 (fun _u:Unit=>⟨[(10,I .i64 L),(11,I .i64 m),(9,I .i64 Y),(8,I .i64 sy),(7,I .i64 X),(6,I .i64 sx),(2,.ptr 0 0 0)],[(0,.blk 72 [I .i64 a.x,I .i64 a.y])],1⟩) (fun _u:Unit=>Tr) (fun h2=>?_) (fun h2=>?_) ?_
  ·(try replace h2:=xhh h2)
   obtain rfl:L=Y:=by omega
   obtain rfl:m=X:=by omega
   try refine xz1 zau ?_
   refine⟨(),trI,To.mk [0] rfl rfl (by decide) ?_ ?_⟩
   ·(try(refine xz1 zau ?_;try exact xtI))
   ·(try(refine xz1 zau ?_;try exact xtI))
  ·(try replace h2:=xhh h2)
   obtain rfl:L=X:=by omega
   obtain rfl:m=Y:=by omega
   try refine xz1 zau ?_
   refine⟨(),trI,To.mk [0] rfl rfl (by decide) ?_ ?_⟩
   ·(try(refine xz1 zau ?_;try exact xtI))
   ·(try(refine xz1 zau ?_;try exact xtI))
  ·rintro _ _
   try refine xz1 zau ?_
   refine zay (fun k:Nat=>⟨[(51,I .i64 k),(50,I .i64 L),(13,I .i64 ((lr L m k:Int)-L)),(12,.own 1),(11,I .i64 m),(10,I .i64 L),(9,I .i64 Y),(8,I .i64 sy),(7,I .i64 X),(6,I .i64 sx),(2,.ptr 0 0 0)],[(0,.blk 72 [I .i64 (lpt a sx sy X Y k).x,I .i64 (lpt a sx sy X Y k).y]),(1,.row 72 2 ((z12 a sx sy X Y k).map zbk))],2⟩) (fun k:Nat=>k≤L) (fun k:Nat=>L-k) (0) (Nat.zero_le _) (To.mk [0,1] rfl rfl (by decide) ?_ ?_) ?_
   ·exact xS3 zm1 zu7 zag
   ·simp(etaStruct := .none)only[push_cast,zad,seval,zm1,yfl,Int.sub_self]
   rintro k hk
   try refine xz1 zau ?_
   refine cI (fun h3=>?_) fun h3=>?_
   ·have hlt:k<L:=by omega
    obtain⟨ST,SR⟩:=ya0 a sx sy X Y k L m hL hm (by omega)
    have hlr:=LR k (by omega)
    have hnr:=NR k (by omega)
    have hnr2:=NR (k+1) (by omega)
    try refine xz1 zau ?_
    refine zf1 (fun o:Bool=>⟨[(51,I .i64 k),(50,I .i64 L),(14,B o),(13,I .i64 ((lr L m (k+1):Int)-L)),(12,.own 1),(11,I .i64 m),(10,I .i64 L),(9,I .i64 Y),(8,I .i64 sy),(7,I .i64 X),(6,I .i64 sx),(2,.ptr 0 0 0)],[(0,.blk 72 [I .i64 (lpt a sx sy X Y k).x,I .i64 (lpt a sx sy X Y k).y]),(1,.row 72 2 ((z12 a sx sy X Y k).map zbk))],2⟩) (fun o:Bool=>(o=true↔2*L≤lr L m k+2*m)) (fun h4=>?_) (fun h4=>?_) ?_
    ·(try replace h4:=xhh h4)
     have e1:(lr L m k:Int)-L+2*m-2*L=(lr L m (k+1):Int)-L:=by rw[SR,if_pos (by omega)];omega
     have e2:decide ((L:Int)≤(lr L m k:Int)-L+2*m)=true:=by simp;omega
     try refine xz3 zau e1 e2 ?_
     refine⟨true,by simp;omega,To.mk [0,1] rfl rfl (by decide) ?_ ?_⟩
     ·(try(refine xz3 zau e1 e2 ?_;try exact xtI))
     ·(try(refine xz3 zau e1 e2 ?_;try exact xtI))
    ·(try replace h4:=xhh h4)
     have e1:(lr L m k:Int)-L+2*m=(lr L m (k+1):Int)-L:=by rw[SR,if_neg (by omega)];omega
     have e2:decide ((L:Int)≤(lr L m (k+1):Int)-L)=false:=by rw[←e1];simp;omega
     try refine xz3 zau e1 e2 ?_
     refine⟨false,by simp;omega,To.mk [0,1] rfl rfl (by decide) ?_ ?_⟩
     ·(try(refine xz3 zau e1 e2 ?_;try exact xtI))
     ·(try(refine xz3 zau e1 e2 ?_;try exact xtI))
    ·rintro o ho
     try refine xz1 zau ?_
     refine zf1 (fun _u:Unit=>⟨[(51,I .i64 k),(50,I .i64 L),(14,B o),(13,I .i64 ((lr L m (k+1):Int)-L)),(12,.own 1),(11,I .i64 m),(10,I .i64 L),(9,I .i64 Y),(8,I .i64 sy),(7,I .i64 X),(6,I .i64 sx),(2,.ptr 0 0 0)],[(0,.blk 72 [I .i64 (lpt a sx sy X Y (k+1)).x,I .i64 (lpt a sx sy X Y k).y]),(1,.row 72 2 ((z12 a sx sy X Y k).map zbk))],2⟩) (fun _u:Unit=>Tr) (fun h5=>?_) (fun h5=>?_) ?_
     ·(try replace h5:=xhh h5)
      rw[ho]at h5
      have e1:(lpt a sx sy X Y k).x+sx=(lpt a sx sy X Y (k+1)).x:=by rw[ST];simp only;rw[if_pos (by omega)]
      try refine xz2 zau e1 ?_
      refine⟨(),trI,To.mk [0,1] rfl rfl (by decide) ?_ ?_⟩
      ·(try(refine xz2 zau e1 ?_;try exact xtI))
      ·(try(refine xz2 zau e1 ?_;try exact xtI))
     ·(try replace h5:=xhh h5)
      rw[Bool.eq_false_iff,ne_eq,ho]at h5
      have e1:(lpt a sx sy X Y k).x=(lpt a sx sy X Y (k+1)).x:=by rw[ST];simp only;rw[if_neg (by omega)]
      try refine xz1 zau ?_
      refine⟨(),trI,To.mk [0,1] rfl rfl (by decide) ?_ ?_⟩
      ·simp(etaStruct := .none)only[push_cast,zad,seval]
       rw[←e1]
       simp(etaStruct := .none)only[push_cast,zad,seval]
      ·(try(refine xz1 zau ?_;try exact xtI))
     ·rintro _ _
      try refine xz1 zau ?_
      refine cI (fun h6=>?_) fun h6=>?_
      ·rw[ho]at h6
       have e1:(lpt a sx sy X Y k).y+sy=(lpt a sx sy X Y (k+1)).y:=by rw[ST];simp only;rw[if_pos (by omega)]
       try refine xz2 zau e1 ?_
       refine⟨k+1,by omega,by omega,To.mk [0,3] rfl rfl (by decide) ?_ ?_⟩
       ·(try(refine xz3 zkl zag Qp ?_;try exact xtI))
       ·(try(refine xz2 zau e1 ?_;try exact xtI))
      ·rw[Bool.eq_false_iff,ne_eq,ho]at h6
       have e1:(lpt a sx sy X Y k).y=(lpt a sx sy X Y (k+1)).y:=by rw[ST];simp only;rw[if_neg (by omega)]
       try refine xz1 zau ?_
       refine⟨k+1,by omega,by omega,To.mk [0,3] rfl rfl (by decide) ?_ ?_⟩
       ·try refine xz3 zkl zag Qp ?_
        rw[←e1]
        exact⟨Wk.refl _,rfl⟩
       ·(try(refine xz1 zau ?_;try exact xtI))
   ·obtain rfl:k=L:=by omega
    try refine xz1 zau ?_
    exact xrz rfl
theorem ya5 (a b:Cel) (ha:zeo a=true) (hb:zeo b=true) (hm:max (b.x-a.x).natAbs (b.y-a.y).natAbs≤120):Spec Tryz.prog 176 [zeu a,zeu b] [] (.c (.sl 2 ((zkm a b).map zbk))) []:=by
 have hx:=zgj ha
 have hy:=zgj hb
 obtain⟨sx,hsx⟩:∃s,s=(b.x-a.x).sign:=⟨_,rfl⟩
 obtain⟨sy,hsy⟩:∃s,s=(b.y-a.y).sign:=⟨_,rfl⟩
 obtain⟨X,hX⟩:∃s,s=(b.x-a.x).natAbs:=⟨_,rfl⟩
 obtain⟨Y,hY⟩:∃s,s=(b.y-a.y).natAbs:=⟨_,rfl⟩
 have F1:=zps a.x b.x (by omega) (by omega)
 have F2:=zps a.y b.y (by omega) (by omega)
 rw[show (a.x-b.x).natAbs=X by omega]at F1
 rw[show (a.y-b.y).natAbs=Y by omega]at F2
 unfold zkm
 rw[←hsx,←hsy,←hX,←hY]
 rw[←hX,←hY]at hm
 have EM:(if (Y:Int)>X then (Y:Int)else X)=(max X Y:Nat):=by split<;>omega
 have gx:=sg (b.x-a.x)
 have gy:=sg (b.y-a.y)
 rw[←hsx]at gx
 rw[←hsy]at gy
 refine spB Tryz.func176 80 [.tmp 4] Tryz.results176 ?_
 try refine xz2 EM zau ?_
 refine caP (F1) ?_
 try refine xz2 EM zau ?_
 refine caP (F2) ?_
 try refine xz2 EM zau ?_
 (try(refine⟨by kernel_rfl,?_⟩))
 try refine xz2 EM zau ?_
 refine zay (fun k:Nat=>⟨[(8,I .i64 ((k:Int)+1)),(7,.own 2),(6,I .i64 Y),(5,I .i64 X),(3,.ptr 1 0 0),(2,.ptr 0 0 0)],[(0,.blk 72 [I .i64 a.x,I .i64 a.y]),(1,.blk 72 [I .i64 b.x,I .i64 b.y]),(2,.row 72 2 ((z12 a sx sy X Y k).map zbk))],3⟩) (fun k:Nat=>k≤max X Y) (fun k:Nat=>max X Y-k) (0) (Nat.zero_le _) (To.mk [0,1,50] rfl rfl (by decide) ?_ ?_) ?_
 ·exact xS2 zu7 zag
 ·simp(etaStruct := .none)only[push_cast,zad,seval,Int.zero_add]
 rintro k hk
 try refine xz2 EM zau ?_
 refine cI (fun h1=>?_) fun h1=>?_
 ·have hlt:k<max X Y:=by omega
  have m1:=zgk (k+1) (b.x-a.x) 120 2000 (by omega) (by omega)
  have m2:=zgk (k+1) (b.y-a.y) 120 2000 (by omega) (by omega)
  simp only[Int.natCast_add,Int.cast_ofNat_Int,Int.natCast_one]at m1 m2
  try refine xz2 EM zau ?_
  refine cI (fun h2=>?_) fun h2=>?_
  ·have t1:=ztw (k+1) X (b.x-a.x) sx hsx.symm hX.symm (by omega)
   obtain⟨s',a1,a2,a3⟩:=zrb X Y (k+1) a.y b.y sy hsy.symm hY.symm
   have q1:=zu6 X Y (k+1) (by omega) (by omega)
   have AS:=z8m X Y (k+1) a.y b.y s' (by omega) (by omega) (by omega) (by omega) a1 a2 (by omega) (by omega)
   rw[a3]at AS
   have LE:lpt a sx sy X Y (k+1)=⟨a.x+sx*(k+1:Nat),a.y+sy*lq X Y (k+1)⟩:=by unfold lpt;rw[if_pos (by omega)]
   have q3 : -120≤sx*((k:Int)+1)∧sx*((k:Int)+1)≤120:=by rcases gx with h|h|h<;>rw[h]<;>omega
   simp only[Int.natCast_add,Int.cast_ofNat_Int,Int.natCast_one]at t1 LE AS
   try refine xz3 EM zau t1 ?_
   (try(refine⟨by kernel_rfl,?_⟩))
   try refine xz3 EM zau t1 ?_
   refine caP (AS) ?_
   try refine xz3 EM zau t1 ?_
   refine⟨k+1,by omega,by omega,To.mk [0,1,61] rfl rfl (by decide) ?_ ?_⟩
   ·(try(refine xz4 zkl zag LE Qp ?_;try exact xtI))
   ·(try(refine xz3 EM zau t1 ?_;try exact xtI))
  ·have t1:=ztw (k+1) Y (b.y-a.y) sy hsy.symm hY.symm (by omega)
   obtain⟨s',a1,a2,a3⟩:=zrb Y X (k+1) a.x b.x sx hsx.symm hX.symm
   have q1:=zu6 Y X (k+1) (by omega) (by omega)
   have AS:=z8m Y X (k+1) a.x b.x s' (by omega) (by omega) (by omega) (by omega) a1 a2 (by omega) (by omega)
   rw[a3]at AS
   have LE:lpt a sx sy X Y (k+1)=⟨a.x+sx*lq Y X (k+1),a.y+sy*(k+1:Nat)⟩:=by unfold lpt;rw[if_neg (by omega)]
   have q3 : -120≤sy*((k:Int)+1)∧sy*((k:Int)+1)≤120:=by rcases gy with h|h|h<;>rw[h]<;>omega
   simp only[Int.natCast_add,Int.cast_ofNat_Int,Int.natCast_one]at t1 LE AS
   try refine xz3 EM zau t1 ?_
   (try(refine⟨by kernel_rfl,?_⟩))
   try refine xz3 EM zau t1 ?_
   refine caP (AS) ?_
   try refine xz3 EM zau t1 ?_
   refine⟨k+1,by omega,by omega,To.mk [0,1,61] rfl rfl (by decide) ?_ ?_⟩
   ·(try(refine xz4 zkl zag LE Qp ?_;try exact xtI))
   ·(try(refine xz3 EM zau t1 ?_;try exact xtI))
 ·obtain rfl:k=max X Y:=by omega
  try refine xz2 EM zau ?_
  exact xrz rfl
theorem yc4 (n m:Nat) (hn:0<n) (_:m≤n):lq n m n=m:=by
 unfold lq
 rw[show 2*n*m+n=n+2*n*m by omega,Nat.add_mul_div_left _ _ (by omega),Nat.div_eq_of_lt (by omega)];omega
theorem zrr (d:Int) (n:Nat) (h:n=d.natAbs):d.sign*n=d:=by rw[h];exact Int.sign_mul_natAbs d
theorem zyg (d:Int) (q:Nat) (hq:q≤d.natAbs) (f:Int):min f (f+d)≤f+d.sign*q∧f+d.sign*q≤max f (f+d):=by
 rcases Int.lt_trichotomy d 0 with h|h|h
 ·rw[Int.sign_eq_neg_one_of_neg h];omega
 ·subst h;simp
 ·rw[Int.sign_eq_one_of_pos h];omega
theorem yfn (a b:Cel) (k:Nat) (hk:k≤max (b.x-a.x).natAbs (b.y-a.y).natAbs) :
 (min a.x b.x≤(lpt a (b.x-a.x).sign (b.y-a.y).sign (b.x-a.x).natAbs (b.y-a.y).natAbs k).x∧(lpt a (b.x-a.x).sign (b.y-a.y).sign (b.x-a.x).natAbs (b.y-a.y).natAbs k).x≤max a.x b.x) ∧
 (min a.y b.y≤(lpt a (b.x-a.x).sign (b.y-a.y).sign (b.x-a.x).natAbs (b.y-a.y).natAbs k).y∧(lpt a (b.x-a.x).sign (b.y-a.y).sign (b.x-a.x).natAbs (b.y-a.y).natAbs k).y≤max a.y b.y):=by
 have ex:a.x+(b.x-a.x)=b.x:=by omega
 have ey:a.y+(b.y-a.y)=b.y:=by omega
 unfold lpt
 split
 ·rename_i h
  have hq:lq (b.x-a.x).natAbs (b.y-a.y).natAbs k≤(b.y-a.y).natAbs:=by
   rcases Nat.eq_zero_or_pos (b.x-a.x).natAbs with h0|h0
   ·have:k=0:=by omega
    subst this;rw[zsd];omega
   ·exact zu6 _ _ _ h0 (by omega)
  have w1:=zyg (b.x-a.x) k (by omega) a.x
  have w2:=zyg (b.y-a.y) _ hq a.y
  rw[ex]at w1;rw[ey]at w2
  exact⟨w1,w2⟩
 ·rename_i h
  have hq:lq (b.y-a.y).natAbs (b.x-a.x).natAbs k≤(b.x-a.x).natAbs:=zu6 _ _ _ (by omega) (by omega)
  have w1:=zyg (b.y-a.y) k (by omega) a.y
  have w2:=zyg (b.x-a.x) _ hq a.x
  rw[ey]at w1;rw[ex]at w2
  exact⟨w2,w1⟩
theorem ya2 (a b:Cel):lpt a (b.x-a.x).sign (b.y-a.y).sign (b.x-a.x).natAbs (b.y-a.y).natAbs (max (b.x-a.x).natAbs (b.y-a.y).natAbs)=b:=by
 obtain⟨bx,by_⟩:=b
 unfold lpt
 split
 ·rename_i h
  simp only at h ⊢
  rw[Nat.max_eq_left h,zrr _ _ rfl]
  rcases Nat.eq_zero_or_pos (bx-a.x).natAbs with h0|h0
  ·rw[h0,zsd];congr 1;omega;simp;omega
  ·rw[yc4 _ _ h0 h,zrr _ _ rfl];congr 1<;>omega
 ·rename_i h
  simp only at h ⊢
  rw[Nat.max_eq_right (by omega),zrr _ _ rfl,yc4 _ _ (by omega) (by omega),zrr _ _ rfl];congr 1<;>omega
theorem ycr {d:Int} {k:Nat} (h1:0<k) (h2:k<d.natAbs):d.sign*k≠0∧d.sign*k≠d:=by
 rcases Int.lt_trichotomy d 0 with h|h|h
 ·rw[Int.sign_eq_neg_one_of_neg h];omega
 ·subst h;simp at h2
 ·rw[Int.sign_eq_one_of_pos h];omega
theorem yfm (a b:Cel) (k:Nat) (h0:0<k) (hk:k<max (b.x-a.x).natAbs (b.y-a.y).natAbs) :
 lpt a (b.x-a.x).sign (b.y-a.y).sign (b.x-a.x).natAbs (b.y-a.y).natAbs k≠a∧lpt a (b.x-a.x).sign (b.y-a.y).sign (b.x-a.x).natAbs (b.y-a.y).natAbs k≠b:=by
 have key:∀p:Cel,(p.x≠a.x∧p.x≠b.x∨p.y≠a.y∧p.y≠b.y)→p≠a∧p≠b:=by
  intro p h
  constructor
  ·intro e;subst e;omega
  ·intro e;subst e;omega
 apply key
 unfold lpt
 split
 ·have:=ycr (d:=b.x-a.x) h0 (by omega)
  simp only;omega
 ·have:=ycr (d:=b.y-a.y) h0 (by omega)
  simp only;omega
theorem zz1 (a b:Cel) (k:Nat) (hk:k≤max (b.x-a.x).natAbs (b.y-a.y).natAbs):(zkm a b).getD k default=lpt a (b.x-a.x).sign (b.y-a.y).sign (b.x-a.x).natAbs (b.y-a.y).natAbs k:=by
 rw[zaq _ _ (by rw[zoy];omega)]
 simp[zkm,z12]
theorem zm6 {f:Fld} {c:Cel} (h:zbl f=0) (hc:inF f c=true):zeo c=true:=by
 obtain⟨h1,h2,_,_⟩:=za4 h
 obtain⟨h3,h4⟩:=inF_iff.1 hc
 unfold zeo;simp;omega
theorem z6k {f:Fld} {a b:Cel} (ha:inF f a=true) (hb:inF f b=true) (k:Nat) (hk:k≤max (b.x-a.x).natAbs (b.y-a.y).natAbs):inF f ((zkm a b).getD k default)=true:=by
 rw[zz1 a b k hk]
 have:=yfn a b k hk
 rw[inF_iff]at ha hb ⊢
 omega
theorem zz0 {f:Fld} {a b:Cel} (h:zbl f=0) (ha:inF f a=true) (hb:inF f b=true):(b.x-a.x).natAbs≤39∧(b.y-a.y).natAbs≤39:=by
 obtain⟨h1,h2,_,_⟩:=za4 h
 rw[inF_iff]at ha hb
 omega
def zmb (p:Int):Bool:=decide (p % 3=0)
def zuo (f:Fld) (a b:Cel):Bool:=(List.range (max (b.x-a.x).natAbs (b.y-a.y).natAbs-1)).all fun k=>zmb (zar f ((zkm a b).getD (k+1) default))
theorem z5j {f:Fld} {a b:Cel} (h:∀k,0<k→k<max (b.x-a.x).natAbs (b.y-a.y).natAbs→zmb (zar f ((zkm a b).getD k default))=true):zuo f a b=true:=by
 unfold zuo
 rw[List.all_eq_true]
 intro k hk
 exact h (k+1) (by omega) (by simp at hk;omega)
theorem z5k {f:Fld} {a b:Cel} {k:Nat} (h0:0<k) (h1:k<max (b.x-a.x).natAbs (b.y-a.y).natAbs) (h:zmb (zar f ((zkm a b).getD k default))=false):zuo f a b=false:=by
 unfold zuo
 rw[List.all_eq_false]
 refine⟨k-1,by simp;omega,?_⟩
 rw[show k-1+1=k by omega,h];simp
def zeq (f:Fld) (a b:Cel):Bool:=zuo f a b||zuo f b a
theorem zy9 {f:Fld} (h:zbl f=0) {c:Cel} (hc:inF f c=true):0≤zar f c∧zar f c<4:=by
 obtain⟨_,_,_,h4⟩:=za4 h
 obtain⟨_,_,i3,i4,_⟩:=zbb h hc
 have hl:(c.y*f.w+c.x).toNat<f.p.length:=by omega
 unfold zar
 rw[zaq _ _ hl]
 exact h4 _ (List.getElem_mem hl)
theorem z02 (f:Fld) (a b:Cel) (hf:zbl f=0) (ha:inF f a=true) (hb:inF f b=true):Spec Tryz.prog 175 [ziq f,zeu a,zeu b] [] (B (zuo f a b)) []:=by
 have CS:=yg5 a b (zm6 hf ha) (zm6 hf hb)
 have LL:=zoy a b
 have LF:=zz0 hf ha hb
 have LI:=fun k hk=>z6k ha hb k hk
 have LT := @z5j f a b
 have LN := @z5k f a b
 have PL:f.p.length≤1600:=(zbb hf ha).2.2.2.2
 generalize zkm a b=l at CS LL LI LT LN
 obtain⟨L,hL⟩:∃L,L=max (b.x-a.x).natAbs (b.y-a.y).natAbs:=⟨_,rfl⟩
 rw[←hL]at LL LI LT LN
 have hLL:L≤39:=by omega
 clear hL
 refine spB Tryz.func175 45 [.tmp 6] Tryz.results175 ?_
 try refine xz2 LL Int.add_sub_cancel ?_
 refine caP (CS) ?_
 try refine xz2 LL Int.add_sub_cancel ?_
 refine cI (fun h1=>?_) fun h1=>?_
 ·have hl2:L≤1:=by omega
  have e:=LT (fun k h0 h1=>by omega)
  try refine xz2 LL Int.add_sub_cancel ?_
  exact zcw e rfl
 ·have e3:((l.map zbk).take L).drop 1=((l.take L).drop 1).map zbk:=by rw[List.map_drop,List.map_take]
  have e4:((l.take L).drop 1).length=L-1:=by simp;omega
  have e5:∀k,k<L-1→((l.take L).drop 1).getD k default=l.getD (k+1) default:=by intro k hk;simp[List.getD_eq_getElem?_getD,List.getElem?_drop,List.getElem?_take,show k+1<L by omega,Nat.add_comm]
  try refine xz4 LL e3 e4 Int.add_sub_cancel ?_
  refine zay (fun k:Nat=>⟨[(28,I .i64 k),(27,I .i64 (L-1:Nat)),(26,.c (.sl 2 (((l.take L).drop 1).map zbk))),(3,.ptr 0 0 0)],[(0,.blk 28 [I .i64 f.w,I .i64 f.h,.c (.sl 1 (f.p.map zao))])],1⟩) (fun k:Nat=>k≤L-1∧∀j,0<j→j≤k→zmb (zar f (l.getD j default))=true) (fun k:Nat=>L-1-k) (0) (⟨Nat.zero_le _,fun j h h'=>by omega⟩) (To.mk [0] rfl rfl (by decide) ?_ ?_) ?_
  ·exact xS
  ·exact xS
  rintro k ⟨hk,hn⟩
  try refine xz4 LL e3 e4 Int.add_sub_cancel ?_
  refine cI (fun h2=>?_) fun h2=>?_
  ·have hlt:k<L-1:=by omega
   have hlt2:k<((l.take L).drop 1).length:=by omega
   have e6:=e5 k hlt
   have hin:=LI (k+1) (by omega)
   have AT:=z2n f (l.getD (k+1) default) (by omega)
   have AV:atV f (l.getD (k+1) default)=(zar f (l.getD (k+1) default),0):=by unfold atV;rw[if_neg (by simp[hf]),if_pos hin]
   rw[AV]at AT
   have p03:=zy9 hf hin
   try refine xz7 LL e3 e4 (gd hlt2) zag e6 Int.add_sub_cancel ?_
   refine caP (AT) ?_
   try refine xz7 LL e3 e4 (gd hlt2) zag e6 Int.add_sub_cancel ?_
   refine cI (fun h3=>?_) fun h3=>?_
   ·have hc:zmb (zar f (l.getD (k+1) default))=false:=decide_eq_false (by omega)
    have e:=LN (by omega) (by omega) hc
    try refine xz7 LL e3 e4 (gd hlt2) zag e6 Int.add_sub_cancel ?_
    exact zcw e rfl
   ·have hc:zmb (zar f (l.getD (k+1) default))=true:=decide_eq_true (by omega)
    try refine xz7 LL e3 e4 (gd hlt2) zag e6 Int.add_sub_cancel ?_
    refine⟨k+1,⟨by omega,fun j h0 h1=>by rcases Nat.lt_or_ge k j with h|h;rw[show j=k+1 by omega];exact hc;exact hn j h0 h⟩,by omega,To.mk [0] rfl rfl (by decide) ?_ ?_⟩
    ·(try(refine xz7 LL e3 e4 (gd hlt2) zag e6 Int.add_sub_cancel ?_;try exact xtI))
    ·(try(refine xz7 LL e3 e4 (gd hlt2) zag e6 Int.add_sub_cancel ?_;try exact xtI))
  ·have e:=LT (fun j h0 h1=>hn j h0 (by omega))
   try refine xz4 LL e3 e4 Int.add_sub_cancel ?_
   exact zcw e rfl
theorem zql (f:Fld) (a b:Cel) (hf:zbl f=0) (ha:inF f a=true) (hb:inF f b=true):Spec Tryz.prog 143 [ziq f,zeu a,zeu b] [] (B (zuo f a b)) []:=by
 have LF:=zz0 hf ha hb
 have CS:=ya5 a b (zm6 hf ha) (zm6 hf hb) (by omega)
 have LL:=zoy a b
 have LI:=fun k hk=>z6k ha hb k hk
 have LT := @z5j f a b
 have LN := @z5k f a b
 have LA:=zz1 a b
 have MID:=yfm a b
 have L0:=zm1 a (b.x-a.x).sign (b.y-a.y).sign (b.x-a.x).natAbs (b.y-a.y).natAbs
 have LZ:=ya2 a b
 have PL:f.p.length≤1600:=(zbb hf ha).2.2.2.2
 generalize zkm a b=l at CS LL LI LT LN LA
 generalize lpt a (b.x-a.x).sign (b.y-a.y).sign (b.x-a.x).natAbs (b.y-a.y).natAbs=g at LA MID L0 LZ
 obtain⟨L,hL⟩:∃L,L=max (b.x-a.x).natAbs (b.y-a.y).natAbs:=⟨_,rfl⟩
 rw[←hL]at LL LI LT LN LA MID LZ
 have hLL:L≤39:=by omega
 clear hL
 refine spB Tryz.func143 35 [.tmp 6] Tryz.results143 ?_
 try refine xz1 LL ?_
 refine caP (CS) ?_
 try refine xz1 LL ?_
 refine zay (fun k:Nat=>⟨[(14,I .i64 k),(13,I .i64 (L+1:Nat)),(12,.c (.sl 2 (l.map zbk))),(5,.ptr 2 0 0),(4,.ptr 1 0 0),(3,.ptr 0 0 0)],[(0,.blk 28 [I .i64 f.w,I .i64 f.h,.c (.sl 1 (f.p.map zao))]),(1,.blk 72 [I .i64 a.x,I .i64 a.y]),(2,.blk 72 [I .i64 b.x,I .i64 b.y])],3⟩) (fun k:Nat=>k≤L+1∧∀j,0<j→j<k→j<L→zmb (zar f (l.getD j default))=true) (fun k:Nat=>L+1-k) (0) (⟨Nat.zero_le _,fun j h h'=>by omega⟩) (To.mk [0,1,2] rfl rfl (by decide) ?_ ?_) ?_
 ·exact xS
 ·exact xS
 rintro k ⟨hk,hn⟩
 try refine xz1 LL ?_
 refine cI (fun h1=>?_) fun h1=>?_
 ·have hlt:k<l.length:=by omega
  have hin:=LI k (by omega)
  have p03:=zy9 hf hin
  have eL:=LA k (by omega)
  have PS:=zlf f (l.getD k default) hf hin
  have ca:=zc5 (l.getD k default) a
  have cb:=zc5 (l.getD k default) b
  try refine xz5 LL (gd hlt) zag ca cb ?_
  refine caP (PS) ?_
  try refine xz5 LL (gd hlt) zag ca cb ?_
  refine cI (fun h2=>?_) fun h2=>?_
  ·have hk0:0<k:=by
    rcases Nat.eq_zero_or_pos k with e|e
    ·subst e;rw[eL,L0]at h2;exact absurd rfl h2.1.1
    ·exact e
   have hkL:k<L:=by
    rcases Nat.lt_or_ge k L with e|e
    ·exact e
    ·obtain rfl:k=L:=by omega
     rw[eL,LZ]at h2;exact absurd rfl h2.1.2
   have e:=LN hk0 hkL (decide_eq_false h2.2)
   try refine xz5 LL (gd hlt) zag ca cb ?_
   exact zcw e rfl
  ·have hc:0<k→k<L→zmb (zar f (l.getD k default))=true:=by
    intro k0 k1
    have mm:=MID k k0 (by omega)
    rw[←eL]at mm
    rcases h2 with (h|h)|h
    ·exact absurd h mm.1
    ·exact absurd h mm.2
    ·exact decide_eq_true h
   try refine xz5 LL (gd hlt) zag ca cb ?_
   refine⟨k+1,⟨by omega,fun j h0 h1 hj=>by rcases Nat.lt_or_ge j k with h|h;exact hn j h0 h hj;rw[show j=k by omega]at hj ⊢;exact hc (by omega) hj⟩,by omega,To.mk [0,1,2] rfl rfl (by decide) ?_ ?_⟩
   ·(try(refine xz5 LL (gd hlt) zag ca cb ?_;try exact xtI))
   ·(try(refine xz5 LL (gd hlt) zag ca cb ?_;try exact xtI))
 ·have e:=LT (fun j h0 h1=>hn j h0 (by omega) h1)
  try refine xz1 LL ?_
  exact zcw e rfl
theorem z6g (f:Fld) (a b:Cel) (hf:zbl f=0) (ha:inF f a=true) (hb:inF f b=true):Spec Tryz.prog 100 [ziq f,zeu a,zeu b] [] (B (zeq f a b)) []:=by
 refine spB Tryz.func100 17 [.tmp 6] Tryz.results100 ?_
 try refine xst ?_
 refine caP (zql f a b hf ha hb) ?_
 try refine xst ?_
 refine gcP (fun hcc=>zql f b a hf hb ha) ?_
 try refine xst ?_
 (first|(refine zi1 rfl (Wk.of ?_);(try simp(etaStruct := .none)only[push_cast,zad,seval]);first|done|(simp[zeq, *];done)|(simp_all[zeq];done))|(refine zi1 rfl ?_;(try simp(etaStruct := .none)only[push_cast,zad,seval]);(try simp[zeq, *]);(try exact wkc)))
theorem ynv (f:Fld) (c:Cel):(atV f c).2=if zbl f≠0 then zbl f else if inF f c then 0 else 7:=by
 unfold atV;split
 ·rfl
 ·split<;>rfl
theorem yoj {f:Fld} {c:Cel} (h:(atV f c).2=0):zbl f=0∧inF f c=true:=by
 rw[ynv]at h
 split at h
 ·rename_i h1;exact absurd h h1
 ·rename_i h1
  split at h
  ·rename_i h2;exact⟨Decidable.not_not.1 h1,h2⟩
  ·simp at h
def zt3 (f:Fld) (a b:Cel):Bool × Int:=if zbl f≠0 then (false,zbl f)else if inF f a&&inF f b then (zeq f a b,0)else (false,7)
theorem yic (f:Fld) (a b:Cel) (hl:f.p.length≤9223372036854775807):Spec Tryz.prog 205 [ziq f,zeu a,zeu b] [] (.tup [B (zt3 f a b).1,I .i64 (zt3 f a b).2]) []:=by
 refine spB Tryz.func205 38 [.tmp 6,.tmp 7] Tryz.results205 ?_
 try refine xst ?_
 refine zay (fun k:Nat=>⟨[(15,I .i64 k),(14,.agg [I .i64 a.x,I .i64 a.y,I .i64 b.x,I .i64 b.y]),(5,.ptr 2 0 0),(4,.ptr 1 0 0),(3,.ptr 0 0 0)],[(0,.blk 28 [I .i64 f.w,I .i64 f.h,.c (.sl 1 (f.p.map zao))]),(1,.blk 72 [I .i64 a.x,I .i64 a.y]),(2,.blk 72 [I .i64 b.x,I .i64 b.y])],3⟩) (fun k:Nat=>k≤2∧(0<k→zbl f=0∧inF f a=true)∧(1<k→inF f b=true)) (fun k:Nat=>2-k) (0) (⟨by omega,fun h=>by omega,fun h=>by omega⟩) (To.mk [0,1,2] rfl rfl (by decide) ?_ ?_) ?_
 ·exact xS
 ·exact xS
 rintro k ⟨hk,q1,q2⟩
 try refine xst ?_
 refine cI (fun h1=>?_) fun h1=>?_
 ·obtain⟨c,hc1,hc2,hc3⟩:∃c:Cel,(k=0→c=a)∧(k=1→c=b)∧List.take 2 (List.drop (k*2) [AV.c (PV.v (.int .i64 a.x)),.c (.v (.int .i64 a.y)),.c (.v (.int .i64 b.x)),.c (.v (.int .i64 b.y))]) = [.c (.v (.int .i64 c.x)),.c (.v (.int .i64 c.y))]:=by
   rcases (show k=0∨k=1 by omega)with rfl|rfl
   ·exact⟨a,fun _=>rfl,fun h=>by omega,rfl⟩
   ·exact⟨b,fun h=>by omega,fun _=>rfl,rfl⟩
  try refine xz1 hc3 ?_
  refine caP (z2n f c hl) ?_
  try refine xz1 hc3 ?_
  refine cI (fun h2=>?_) fun h2=>?_
  ·have e2:=ynv f c
   have e3:zt3 f a b=(false,(atV f c).2):=by
    unfold zt3
    by_cases hf:zbl f=0
    ·rw[if_neg (by simp[hf])]
     rw[if_neg (by simp[hf])]at e2
     cases hc:inF f c with
     | true=>rw[hc]at e2;exact absurd e2 h2
     | false =>
      rw[hc]at e2
      rw[e2]
      rcases (show k=0∨k=1 by omega)with h|h
      ·rw[←hc1 h,hc];rfl
      ·rw[←hc2 h,hc];simp
    ·rw[if_pos hf]at e2 ⊢;rw[e2]
   try refine xz1 hc3 ?_
   exact zcw e3 rfl
  ·obtain⟨a1,a2⟩:=yoj h2
   try refine xz1 hc3 ?_
   refine⟨k+1,⟨by omega,fun _=>⟨a1,by rcases (show k=0∨k=1 by omega)with h|h;rw[←hc1 h];exact a2;exact(q1 (by omega)).2⟩,fun h=>by rw[←hc2 (by omega)];exact a2⟩,by omega,To.mk [0,1,2] rfl rfl (by decide) ?_ ?_⟩
   ·(try(refine xz1 hc3 ?_;try exact xtI))
   ·(try(refine xz1 hc3 ?_;try exact xtI))
 ·obtain⟨hf,ha⟩:=q1 (by omega)
  have hb:=q2 (by omega)
  have e4:zt3 f a b=(zeq f a b,0):=by unfold zt3;rw[if_neg (by simp[hf]),if_pos (by simp[ha,hb])]
  try refine xst ?_
  refine caP (z02 f a b hf ha hb) ?_
  try refine xst ?_
  refine gcP (fun hcc=>z02 f b a hf hb ha) ?_
  try refine xst ?_
  (first|(refine zi1 rfl (Wk.of ?_);(try simp(etaStruct := .none)only[push_cast,zad,seval]);first|done|(simp[e4,zeq, *];done)|(simp_all[e4,zeq];done))|(refine zi1 rfl ?_;(try simp(etaStruct := .none)only[push_cast,zad,seval]);(try simp[e4,zeq, *]);(try exact wkc)))
def zdd (w:Int) (i:Nat):Cel:=⟨(i:Int) % w,(i:Int)/w⟩
theorem yg6 (w:Int) (i:Nat):zdd w i=(⟨(i:Int) % w,(i:Int)/w⟩:Cel):=rfl
def zgw (f:Fld) (c:Cel) (r:Int) (m:Cel):Bool:=decide (max ((m.x-c.x).natAbs:Int) ((m.y-c.y).natAbs:Int)≤r)&&zeq f c m
theorem yeg (f:Fld) (c:Cel) (r:Int) (m:Cel):zgw f c r m=(decide (max ((m.x-c.x).natAbs:Int) ((m.y-c.y).natAbs:Int)≤r)&&zeq f c m:Bool):=rfl
def zb8 (f:Fld) (c:Cel) (r:Int) (n:Nat):List Cel:=((List.range n).map (zdd f.w)).filter (zgw f c r)
theorem zp8 (f:Fld) (c:Cel) (r:Int) (n:Nat):zb8 f c r (n+1)=zb8 f c r n++if zgw f c r (zdd f.w n)then [zdd f.w n]else []:=by
 unfold zb8
 rw[List.range_succ,List.map_append,List.filter_append]
 congr 1
 simp[List.filter_cons]
theorem yee {f:Fld} {c:Cel} {r:Int} {n:Nat} (h:zgw f c r (zdd f.w n)=true):zb8 f c r (n+1)=zb8 f c r n ++ [zdd f.w n]:=by rw[zp8,if_pos h]
theorem z4e {f:Fld} {c:Cel} {r:Int} {n:Nat} (h:zgw f c r (zdd f.w n)=false):zb8 f c r (n+1)=zb8 f c r n:=by rw[zp8,if_neg (by simp[h]),List.append_nil]
theorem zp9 (f:Fld) (c:Cel) (r:Int) (n:Nat):∀d,(∀i,n≤i→i<n+d→zgw f c r (zdd f.w i)=false)→zb8 f c r (n+d)=zb8 f c r n
 | 0,_=>rfl
 | d+1,h=>by rw[←Nat.add_assoc,z4e (h _ (by omega) (by omega))];exact zp9 f c r n d fun i h1 h2=>h i h1 (by omega)
theorem zmq {f:Fld} {c:Cel} {r:Int} {n m:Nat} (hnm:n≤m) (h:∀i,n≤i→i<m→zgw f c r (zdd f.w i)=false):zb8 f c r m=zb8 f c r n:=by
 rw[show m=n+(m-n)by omega];exact zp9 f c r n _ fun i h1 h2=>h i h1 (by omega)
theorem zt4 (f:Fld) (c:Cel) (r:Int) (n:Nat):(zb8 f c r n).length≤n:=by
 unfold zb8
 exact Nat.le_trans (List.length_filter_le _ _) (by simp)
theorem zmp {f:Fld} {c:Cel} {r:Int} {m:Cel} (h:m.x<c.x-r∨c.x+r<m.x∨m.y<c.y-r∨c.y+r<m.y):zgw f c r m=false:=by
 unfold zgw
 rw[decide_eq_false (by omega)];rfl
theorem yb6 {w:Int} {W X Y:Nat} (hw:w=W) (hX:X<W):zdd w (Y*W+X)=⟨X,Y⟩:=by
 have e1:(Y*W+X) % W=X:=by rw[Nat.mul_comm,Nat.mul_add_mod,Nat.mod_eq_of_lt hX]
 have e2:(Y*W+X)/W=Y:=by rw[Nat.mul_comm,Nat.mul_add_div (by omega),Nat.div_eq_of_lt hX,Nat.add_zero]
 unfold zdd
 rw[hw,←Int.natCast_emod,←Int.natCast_ediv,e1,e2]
theorem yb5 {f:Fld} (hf:zbl f=0) {i:Nat} (hi:(i:Int)<f.w*f.h):inF f (zdd f.w i)=true:=by
 obtain⟨h1,h2,_,_⟩:=za4 hf
 rw[inF_iff]
 unfold zdd
 have:=Int.emod_nonneg (i:Int) (show f.w≠0 by omega)
 have:=Int.emod_lt_of_pos (i:Int) (show 0<f.w by omega)
 have:=Int.ediv_nonneg (a:=(i:Int)) (b:=f.w) (by omega) (by omega)
 have:(i:Int)/f.w<f.h:=Int.ediv_lt_of_lt_mul (by omega) (by rw[Int.mul_comm];exact hi)
 simp only;omega
def zpn (f:Fld) (c:Cel) (r:Int):List Cel × Int :=
 if zbl f≠0 then ([],zbl f)else if inF f c=false then ([],7)else if zal r 0 12=false then ([],1)else (zb8 f c r f.p.length,0)
def zxe (a b:Cel):Nat:=max (a.x-b.x).natAbs (a.y-b.y).natAbs
def countB (w:Wld) (x y:Trp):Bool := !decide (x.owner=y.owner)&&decide ((zxe x.c y.c:Int)≤(zbx x.kind).blow)&&zeq w.f x.c y.c
theorem yk1 (w:Wld) (x y:Trp):countB w x y=(!decide (x.owner=y.owner)&&decide ((zxe x.c y.c:Int)≤(zbx x.kind).blow)&&zeq w.f x.c y.c:Bool):=rfl
def zk4 (w:Wld) (b:Blw):Bool:=(zcc w b.by_).isSome&&(zcc w b.at_).isSome&&countB w ((zcc w b.by_).getD ztk) ((zcc w b.at_).getD ztk)
def zjd (w:Wld) (t:Trp) (b:Blw):Bool:=decide (b.by_=t.id)&&zk4 w b
theorem yjg (w:Wld) (t:Trp) (b:Blw):zjd w t b=(decide (b.by_=t.id)&&zk4 w b:Bool):=rfl
def zpj (w:Wld) (l:List Blw) (id:Int) (t:Trp):Int:=match l.find? (zjd w t)with|some b=>if b.at_=id then (zbx t.kind).load else 0|none=>0
def zrk (l:List Int):Int:=l.sum
theorem yn5 (l:List Int):zrk l=(l.sum:Int):=rfl
theorem z3u (l:List Int) (x:Int):zrk (l ++ [x])=zrk l+x:=by unfold zrk;simp
theorem zyq:∀(l:List Int) (i:Nat) (v:Int),i<l.length→zrk (l.set i v)=zrk l-l.getD i default+v
 | [],i,v,h=>by simp at h
 | a::r,0,v,_=>by simp[zrk];omega
 | a::r,i+1,v,h=>by
  have:=zyq r i v (by simpa using h)
  simp only[zrk,List.set_cons_succ,List.sum_cons,List.getD_cons_succ]at this ⊢
  omega
def zfj (w:Wld) (l:List Blw) (id:Int):Int:=zrk (w.troops.map (zpj w l id))
def Ups (w:Wld):Prop:=∀i j,i<j→j<w.troops.length→(w.troops.getD i default).id<(w.troops.getD j default).id
theorem yh3 {w:Wld} (h:zap w=0):Ups w:=by
 intro i j hij hj
 have h2:=(zgt h hj).2
 unfold z3q at h2
 have:=(zb5 _ _).1 h2 i hij
 simp only[bJ,decide_eq_true_eq]at this
 exact this.1
theorem Ups.ne {w:Wld} (h:Ups w) {i j:Nat} (hi:i<w.troops.length) (hj:j<w.troops.length) (hne:i≠j):(w.troops.getD i default).id≠(w.troops.getD j default).id:=by
 rcases Nat.lt_or_gt_of_ne hne with h1|h1
 ·have:=h i j h1 hj;omega
 ·have:=h j i h1 hi;omega
theorem zq0 {w:Wld} {n:Int} (h:(zcc w n).isSome=true):∃i,i<w.troops.length∧(w.troops.getD i default).id=n∧(zcc w n).getD ztk=w.troops.getD i default:=by
 unfold zcc at *
 obtain⟨t,ht⟩:=Option.isSome_iff_exists.1 h
 have hm:=List.mem_of_find?_eq_some ht
 have hp:=List.find?_some ht
 obtain⟨i,hi,e⟩:=mem_getD.1 hm
 refine⟨i,hi,by rw[e];simpa using hp,by rw[ht,e];rfl⟩
theorem zvh (w:Wld) (l:List Blw) (b:Blw) (id:Int) (t:Trp):zpj w (l ++ [b]) id t=if l.any (zjd w t)=false∧zjd w t b=true then (if b.at_=id then (zbx t.kind).load else 0)else zpj w l id t:=by
 unfold zpj
 rw[List.find?_append]
 cases h:l.find? (zjd w t)with
 | some x =>
  have hx:=List.find?_some h
  have hm:=List.mem_of_find?_eq_some h
  have:l.any (zjd w t)=true:=List.any_eq_true.2 ⟨x,hm,hx⟩
  rw[if_neg (by simp[this])];rfl
 | none =>
  have:l.any (zjd w t)=false:=by rw[List.any_eq_false];intro x hx;exact List.find?_eq_none.1 h x hx
  rw[this]
  cases hp:zjd w t b with
  | true=>simp[hp]
  | false=>simp[hp]
theorem z6y (w:Wld) (l:List Blw) (id:Int) (t:Trp) (h:l.any (zjd w t)=false):zpj w l id t=0:=by
 unfold zpj
 rw[List.find?_eq_none.2 (fun x hx=>by have:=List.any_eq_false.1 h x hx;simpa using this)]
theorem z63 {w:Wld} (hu:Ups w) (l:List Blw) (b:Blw) (id:Int) (h:zk4 w b=false∨∃i,i<w.troops.length∧(w.troops.getD i default).id=b.by_∧l.any (zjd w (w.troops.getD i default))=true):zfj w (l ++ [b]) id=zfj w l id:=by
 unfold zfj
 congr 1
 refine List.map_congr_left fun t ht=>?_
 rw[zvh,if_neg]
 rintro⟨h1,h2⟩
 rcases h with h|⟨i,hi,e,h3⟩
 ·unfold zjd at h2;rw[h]at h2;simp at h2
 ·obtain⟨j,hj,rfl⟩:=mem_getD.1 ht
  by_cases hij:i=j
  ·subst hij;rw[h3]at h1;simp at h1
  ·have:=hu.ne hi hj hij
   unfold zjd at h2
   simp only[bJ,decide_eq_true_eq]at h2
   omega
theorem z62 {w:Wld} (hu:Ups w) (l:List Blw) (b:Blw) (id:Int) (hb:zk4 w b=true) {i:Nat} (hi:i<w.troops.length) (hid:(w.troops.getD i default).id=b.by_) (hn:l.any (zjd w (w.troops.getD i default))=false) :
 zfj w (l ++ [b]) id=zfj w l id+(if b.at_=id then (zbx (w.troops.getD i default).kind).load else 0):=by
 have e:w.troops.map (zpj w (l ++ [b]) id)=(w.troops.map (zpj w l id)).set i (if b.at_=id then (zbx (w.troops.getD i default).kind).load else 0):=by
  refine List.ext_getElem (by simp) fun j h1 h2=>?_
  rw[List.length_map]at h1
  rw[List.getElem_map,List.getElem_set,zvh,←zaq _ _ h1]
  by_cases hij:i=j
  ·subst hij
   rw[if_pos rfl,if_pos ⟨hn,by unfold zjd;rw[hb,hid];simp⟩]
  ·have:=hu.ne hi h1 hij
   rw[if_neg hij,if_neg,List.getElem_map,←zaq _ _ h1]
   rintro⟨_,h3⟩
   unfold zjd at h3
   simp only[bJ,decide_eq_true_eq]at h3
   omega
 unfold zfj
 rw[e,zyq _ _ _ (by simpa using hi)]
 have:(w.troops.map (zpj w l id)).getD i default=0:=by
  rw[zaq _ _ (by simpa using hi),List.getElem_map,←zaq _ _ hi]
  exact z6y _ _ _ _ hn
 omega
theorem z0a (w:Wld) (id:Int):zfj w [] id=0:=by
 unfold zfj zrk
 induction w.troops with
 | nil=>rfl
 | cons a r ih=>rw[List.map_cons,List.sum_cons,ih];rfl
theorem z6q {α : Type} [Inhabited α] (p : α → Bool) (l:List α):(∃i:Nat,i<l.length∧zg6 p l=(i:Int)∧l.find? p=some (l.getD i default))∨(zg6 p l = -1∧l.find? p=none):=by
 unfold zg6
 cases h:l.findIdx? p with
 | none =>
  refine .inr ⟨rfl,?_⟩
  rw[List.find?_eq_none]
  intro x hx
  have:=List.findIdx?_eq_none_iff.1 h x hx
  simp[this]
 | some i =>
  obtain⟨hi,h1,h2⟩:=List.findIdx?_eq_some_iff_getElem.1 h
  refine .inl ⟨i,hi,rfl,zkv p l i hi (by rw[zaq _ _ hi];exact h1) (fun j hj=>?_)⟩
  rw[zaq _ _ (by omega)]
  have:=h2 j hj
  simpa using this
def zsr (w:Wld) (l:List Blw):List Int:=w.troops.map fun t=>zfj w l t.id
def zcs (w:Wld) (l:List Blw):Int:=if zap w≠0 then zap w else if 200<l.length then 2 else 0
def zju (w:Wld) (l:List Blw):List Int:=if zcs w l=0 then zsr w l else []
def zej (w:Wld) (l:List Blw) (t:Trp):Trp:={ t with life:=t.life-zfj w l t.id }
theorem zyf (w:Wld) (l:List Blw) (t:Trp):zej w l t=({ t with life:=t.life-zfj w l t.id } : Trp):=rfl
def zkn (w:Wld) (l:List Blw):List Trp:=(w.troops.map (zej w l)).filter fun t=>decide (0<t.life)
def zvi (w:Wld) (l:List Blw):List Int:=((w.troops.map (zej w l)).filter fun t => !decide (0<t.life)).map (·.id)
def zhs (w:Wld) (l:List Blw):Wld:={ w with troops:=zkn w l }
theorem zty (w:Wld) (l:List Blw):zhs w l=({ w with troops:=zkn w l } : Wld):=rfl
theorem ya8 (a b:Cel):(if (b.x-a.x).natAbs<(b.y-a.y).natAbs then ((b.y-a.y).natAbs:Int)else ((b.x-a.x).natAbs:Int))=(zxe a b:Int):=by
 unfold zxe;split<;>omega
theorem zsi (a b:Cel) (ha:zeo a=true) (hb:zeo b=true):Spec Tryz.prog 196 [zeu a,zeu b] [] (.tup [I .i64 (zxe a b:Nat),I .i64 (((b.x-a.x).natAbs+(b.y-a.y).natAbs:Nat):Int),I .i64 0]) []:=by
 have ha1:=ha
 have hb1:=hb
 unfold zeo at ha1 hb1
 rw[decide_eq_true_eq]at ha1 hb1
 refine spB Tryz.func196 43 [.tmp 4,.tmp 5,.tmp 6] Tryz.results196 ?_
 try refine xst ?_
 refine caP (zzj a ⟨by omega,by omega⟩ ⟨by omega,by omega⟩) ?_
 try refine xst ?_
 refine gcP (fun hcc=>zzj b ⟨by omega,by omega⟩ ⟨by omega,by omega⟩) ?_
 try refine xst ?_
 refine cI (fun h1=>?_) fun h1=>?_
 ·rw[ha,hb]at h1;simp at h1
 ·try refine xst ?_
  refine caP (zyv (b.x-a.x) ⟨by omega,by omega⟩ (by omega)) ?_
  try refine xst ?_
  refine caP (zyv (b.y-a.y) ⟨by omega,by omega⟩ (by omega)) ?_
  try refine xst ?_
  exact zcw ya8 rfl
theorem z9q {f:Fld} {a b:Cel} (hf:zbl f=0) (ha:inF f a=true) (hb:inF f b=true):zt3 f a b=(zeq f a b,0):=by
 unfold zt3;rw[if_neg (by simp[hf]),if_pos (by simp[ha,hb])]
theorem zzk {f:Fld} {c:Cel} (hf:zbl f=0) (h:inF f c=true):zeo c=true:=by
 have h1:=inF_iff.1 h
 obtain⟨h2,h3,_⟩:=za4 hf
 unfold zeo
 rw[decide_eq_true_eq];omega
theorem yb0 (w:Wld) (x y:Trp) (hl:zd4 w) (hw:zap w=0) (hx:x∈w.troops) (hy:y∈w.troops):Spec Tryz.prog 189 [zcf w,z3p x,z3p y] [] (B (countB w x y)) []:=by
 obtain⟨hf,_⟩:=zcr hw
 have ox:=zgc hw hx
 have oy:=zgc hw hy
 have ix:=(ground_iff.1 ox.at_).1
 have iy:=(ground_iff.1 oy.at_).1
 have es:=z9q hf ix iy
 refine spB Tryz.func189 51 [.tmp 6] Tryz.results189 ?_
 try refine xst ?_
 refine caP (zf2 x.kind) ?_
 try refine xst ?_
 refine caP (zsi x.c y.c (zzk hf ix) (zzk hf iy)) ?_
 try refine xst ?_
 refine cI (fun h1=>?_) fun h1=>?_
 ·have e:countB w x y=false:=by
   unfold countB
   rcases h1 with h|h
   ·simp[h]
   ·simp only[Bool.and_eq_false_iff];exact .inl (.inr (by simpa using h))
  try refine xst ?_
  exact zcw e rfl
 ·have e:countB w x y=zeq w.f x.c y.c:=by
   unfold countB
   rw[decide_eq_false h1.1,decide_eq_true h1.2];simp
  try refine xst ?_
  refine caP (yic w.f x.c y.c hl.1) ?_
  try refine xst ?_
  rw[es]
  exact zcw e rfl
def IdxM (w:Wld) (k:Nat) (es:List (List Int × Int)):Prop:=(∀i:Int,zos [i] es=(w.troops.take k).any fun t=>decide (t.id=i))∧∀j,j<k→zd6 [(w.troops.getD j default).id] es=(j:Int)
theorem IdxM.step {w:Wld} (hu:Ups w) {k:Nat} {es:List (List Int × Int)} (h:IdxM w k es) (hk:k<w.troops.length):IdxM w (k+1) (zij [(w.troops.getD k default).id] (k:Int) es):=by
 refine⟨fun i=>?_,fun j hj=>?_⟩
 ·rw[zor,zak _ _ hk,List.any_append,h.1 i]
  simp only[List.any_cons,List.any_nil,Bool.or_false,List.cons.injEq,and_true]
  by_cases hi:i=(w.troops.getD k default).id
  ·rw[if_pos hi,decide_eq_true hi.symm,Bool.or_true]
  ·rw[if_neg hi,decide_eq_false (Ne.symm hi),Bool.or_false]
 ·rw[zc1]
  by_cases hjk:j=k
  ·subst hjk;rw[if_pos rfl]
  ·have:=hu j k (by omega) hk
   rw[if_neg (fun h=>by have:=(List.cons.inj h).1;omega)]
   exact h.2 j (by omega)
theorem z6b {k:List Int} {es:List (List Int × Int)} (h:zos k es=false):zd6 k es=0:=by
 unfold zos at h;unfold zd6
 cases hm:zdh k 0 es with
 | none=>rfl
 | some p=>rw[hm]at h;simp at h
theorem IdxM.get {w:Wld} {es:List (List Int × Int)} (h:IdxM w w.troops.length es) (hpos:0<w.troops.length) (a:Int):∃i:Nat,i<w.troops.length∧zd6 [a] es=(i:Int)∧zos [a] es=(zcc w a).isSome∧((zcc w a).isSome=true→(w.troops.getD i default).id=a∧(zcc w a).getD ztk=w.troops.getD i default):=by
 have h1:=h.1 a
 rw[List.take_length]at h1
 cases hf:zcc w a with
 | none =>
  have e:zos [a] es=false:=by
   rw[h1,List.any_eq_false]
   intro x hx
   have:=List.find?_eq_none.1 hf x hx
   simpa using this
  exact⟨0,hpos,z6b e,e,fun h=>by simp at h⟩
 | some t =>
  obtain⟨i,hi,e1,e2⟩:=zq0 (w:=w) (n:=a) (by rw[hf];rfl)
  refine⟨i,hi,?_,?_,fun _=>⟨e1,by rw[←hf];exact e2⟩⟩
  ·rw[←e1];exact h.2 i hi
  ·rw[h1,List.any_eq_true.2 ⟨w.troops.getD i default,zax _ _ hi,by simpa using e1⟩];rfl
theorem zko (k:Int):0≤(zbx k).load∧(zbx k).load≤4:=by unfold zbx;split<;>(try split)<;>simp
theorem ybh {w:Wld} {l:List Blw} {harm:List Int} (hl:harm.length=w.troops.length) (h:∀j,j<w.troops.length→harm.getD j default=zfj w l (w.troops.getD j default).id):harm=zsr w l:=by
 refine List.ext_getElem (by unfold zsr;rw[List.length_map];exact hl) fun j h1 h2=>?_
 have:=h j (by omega)
 rw[zaq _ _ h1,zaq _ _ (by omega)]at this
 simp only[zsr,List.getElem_map];exact this
theorem ymp {l:List Bool} {i:Nat} (v:Bool) (p:Nat) (hi:i<l.length):(l.set i v).getD p default=if p=i then v else l.getD p default:=by
 by_cases h:p=i
 ·subst h;rw[if_pos rfl,zaq _ _ (by simpa using hi)];simp
 ·rw[if_neg h]
  simp only[List.getD_eq_getElem?_getD,List.getElem?_set,if_neg (Ne.symm h)]
theorem yh9 {l:List Int} {i:Nat} (v:Int) (p:Nat) (hi:i<l.length):(l.set i v).getD p default=if p=i then v else l.getD p default:=by
 by_cases h:p=i
 ·subst h;rw[if_pos rfl,zaq _ _ (by simpa using hi)];simp
 ·rw[if_neg h]
  simp only[List.getD_eq_getElem?_getD,List.getElem?_set,if_neg (Ne.symm h)]
theorem yg8 (w:Wld) (l:List Blw) (hl:zd4 w) (hll:l.length≤9223372036854775807) (h:zcs w l≠0):Spec Tryz.prog 164 [zcf w,.c (.sl 2 (l.map zi5))] [] (.tup [.c (.sl 1 ((zju w l).map zao)),I .i64 (zcs w l)]) []:=by
 have e2:zju w l = []:=by unfold zju;rw[if_neg h]
 refine spB Tryz.func164 120 [.tmp 4,.tmp 5] Tryz.results164 ?_
 try refine xst ?_
 refine caP (zeh w hl) ?_
 try refine xst ?_
 refine cI (fun h1=>?_) fun h1=>?_
 ·have e:zcs w l=zap w:=by unfold zcs;rw[if_pos h1]
  try refine xst ?_
  exact znb e e2 rfl
 ·try refine xst ?_
  refine cI (fun h2=>?_) fun h2=>?_
  ·have e:zcs w l=2:=by unfold zcs;rw[if_neg (by simpa using h1),if_pos (by omega)]
   try refine xst ?_
   exact znb e e2 rfl
  ·exact absurd (by unfold zcs;rw[if_neg (by simpa using h1),if_neg (by omega)]) h
def zhl (x:Nod):List PV := [pI x.c.x,pI x.c.y,pI x.far,pI x.all]
theorem zbj (x:Nod):zhl x=([pI x.c.x,pI x.c.y,pI x.far,pI x.all]:List PV):=rfl
abbrev yhz (x:Nod):AV := .agg [I .i64 x.c.x,I .i64 x.c.y,I .i64 x.far,I .i64 x.all]
theorem zup (l:List Nod):Spec Tryz.prog 198 [.c (.sl 4 (l.map zhl))] [] (I .i64 l.length) []:=by
 refine spB Tryz.func198 5 [.tmp 2] Tryz.results198 ?_
 try refine xst ?_
 exact xrz rfl
theorem zr4 (l:List Nod) (i j:Nat) (hi:i<l.length) (hj:j<l.length):Spec Tryz.prog 235 [.c (.sl 4 (l.map zhl)),I .i64 i,I .i64 j] [] (B (decide ((l.getD i default).all<(l.getD j default).all))) []:=by
 refine spB Tryz.func235 18 [.tmp 6] Tryz.results235 ?_
 try refine xz3 (gd hi) (gd hj) zbj ?_
 (try(refine⟨by kernel_rfl,?_⟩))
 try refine xz3 (gd hi) (gd hj) zbj ?_
 exact xrz rfl
theorem zry (l:List Nod) (i j:Nat) (hi:i<l.length) (hj:j<l.length):Spec Tryz.prog 236 [.own 0,I .i64 i,I .i64 j] [.row 270 4 (l.map zhl)] (.tup []) [.row 270 4 ((zeb l i j).map zhl)]:=by
 have hj2:j<(l.set i (l.getD j default)).length:=by rw[List.length_set];exact hj
 refine spB Tryz.func236 20 [] Tryz.results236 ?_
 try refine xz3 (gd hi) (gd hj) zbj ?_
 (try(refine⟨by kernel_rfl,?_⟩))
 try refine xz3 (gd hi) (gd hj) zbj ?_
 refine zb9 [0] rfl rfl (by decide) ⟨?_,trivial⟩ trivial ?_<;>simp(etaStruct := .none)only[push_cast,zad,seval,zeb,←List.map_set,List.length_map,List.map_set,zhl]
theorem yae (f:Fld) (b:Cel) (far:List Int)(l:List Nod) (x:Nod) (hl:l.length≤1000000):Spec Tryz.prog 240 [.ptr 0 0 6,.ifc 270 (yhz x)] [.blk 206 [I .i64 f.w,I .i64 f.h,.c (.sl 1 (f.p.map zao)),I .i64 b.x,I .i64 b.y,.own 1,.own 2],.row 3 1 (far.map zao),.row 270 4 (l.map zhl)] (.tup []) [.blk 206 [I .i64 f.w,I .i64 f.h,.c (.sl 1 (f.p.map zao)),I .i64 b.x,I .i64 b.y,.own 1,.own 3],.row 3 1 (far.map zao),.dead,.row 270 4 ((l ++ [x]).map zhl)]:=by
 refine spB Tryz.func240 13 [] Tryz.results240 ?_
 try refine xst ?_
 (try(refine⟨by kernel_rfl,?_⟩))
 try refine xst ?_
 refine zb9 [0,1,2,31] rfl rfl (by decide) ⟨?_,?_,?_,?_,trivial⟩ trivial ?_<;>simp(etaStruct := .none)only[push_cast,zad,seval,List.map_append,zhl]
theorem ye4 (f:Fld) (b:Cel) (far:List Int)(l:List Nod) (n:Nat) (hn:l.length=n+1) (hl:l.length≤1000001):Spec Tryz.prog 239 [.ptr 0 0 6] [.blk 206 [I .i64 f.w,I .i64 f.h,.c (.sl 1 (f.p.map zao)),I .i64 b.x,I .i64 b.y,.own 1,.own 2],.row 3 1 (far.map zao),.row 270 4 (l.map zhl)] (.ifc 270 (yhz (l.getD n default))) [.blk 206 [I .i64 f.w,I .i64 f.h,.c (.sl 1 (f.p.map zao)),I .i64 b.x,I .i64 b.y,.own 1,.own 3],.row 3 1 (far.map zao),.dead,.row 270 4 ((l.take n).map zhl)]:=by
 have hlt:n<l.length:=by omega
 have e1:IntKind.i64.wrap ((l.length:Int)-1)=(n:Int):=by rw[zaj _ (by omega) (by omega)];omega
 refine spB Tryz.func239 23 [.tmp 2] Tryz.results239 ?_
 try refine xz3 e1 (gd hlt) zbj ?_
 refine zjn (To.cutC 0 6 2 n 270 4 206 _ (l.map zhl) rfl rfl rfl (by rw[List.length_map];omega)) ?_
 refine zb9 [0,1,2,4] rfl rfl (by decide) ⟨?_,?_,?_,?_,trivial⟩ trivial ?_<;>simp(etaStruct := .none)only[push_cast,zad,seval,List.map_take,List.set_cons_zero,List.set_cons_succ]
theorem yir (f:Fld) (b:Cel) (far:List Int)(l:List Nod) (j:Nat) (hj:j<l.length) (hl:l.length≤1000001):Spec Tryz.prog 213 [.ifc 268 (.ptr 0 0 6),I .i64 j] [.blk 206 [I .i64 f.w,I .i64 f.h,.c (.sl 1 (f.p.map zao)),I .i64 b.x,I .i64 b.y,.own 1,.own 2],.row 3 1 (far.map zao),.row 270 4 (l.map zhl)] (.tup []) [.blk 206 [I .i64 f.w,I .i64 f.h,.c (.sl 1 (f.p.map zao)),I .i64 b.x,I .i64 b.y,.own 1,.own 2],.row 3 1 (far.map zao),.row 270 4 ((hup Nod.all l j).map zhl)]:=by
 refine spB Tryz.func213 23 [] Tryz.results213 ?_
 try refine xz1 zfu ?_
 refine zay (fun x:List Nod × Nat=>⟨[(1,I .i64 x.2),(0,.ifc 268 (.ptr 0 0 6))],[(0,.blk 206 [I .i64 f.w,I .i64 f.h,.c (.sl 1 (f.p.map zao)),I .i64 b.x,I .i64 b.y,.own 1,.own 2]),(1,.row 3 1 (far.map zao)),(2,.row 270 4 (x.1.map zhl))],3⟩) (fun x:List Nod × Nat=>x.2<x.1.length∧x.1.length≤1000001∧hup Nod.all x.1 x.2=hup Nod.all l j) (fun x:List Nod × Nat=>x.2) ((l,j)) (⟨hj,hl,rfl⟩) (To.mk [0,1,2] rfl rfl (by decide) ?_ ?_) ?_
 ·exact xS
 ·exact xS
 rintro⟨m,i⟩ ⟨hi,hm,hu⟩
 simp only at hi hm hu
 have lp:par i≤i:=by simp only[par];omega
 have hp:par i<m.length:=by omega
 try refine xz1 zfu ?_
 refine zhj (fun hcc=>zr4 m i (par i) hi hp) (WkL.refl _) rfl xG ?_
 try refine xz1 zfu ?_
 refine cI (fun h1=>?_) fun h1=>?_
 ·have e:hup Nod.all m i=m:=by
   rw[hup,if_pos]
   rcases h1 with h|h
   ·exact .inl (by omega)
   ·exact .inr (by omega)
  rw[←hu,e]
  try refine xz1 zfu ?_
  refine zb9 [0,1,2] rfl rfl (by decide) ⟨?_,?_,?_,trivial⟩ trivial ?_<;>exact xS
 ·have e:hup Nod.all m i=hup Nod.all (zeb m (par i) i) (par i):=by rw[hup,if_neg];rintro (h|h)<;>omega
  have lt:par i<i:=by omega
  try refine xz1 zfu ?_
  refine caM [2] (zry m (par i) i hp hi) ?_
  try refine xz1 zfu ?_
  refine⟨(zeb m (par i) i,par i),⟨by rw[za7];exact hp,by rw[za7];exact hm,by rw[←hu,e]⟩,lt,To.mk [0,1,2] rfl rfl (by decide) ?_ ?_⟩
  ·(try(refine xz1 zfu ?_;try exact xtI))
  ·(try(refine xz1 zfu ?_;try exact xtI))
theorem yaj (f:Fld) (b:Cel) (far:List Int)(l:List Nod) (x:Nod) (hl:l.length≤1000000):Spec Tryz.prog 197 [.ifc 268 (.ptr 0 0 6),.ifc 270 (yhz x)] [.blk 206 [I .i64 f.w,I .i64 f.h,.c (.sl 1 (f.p.map zao)),I .i64 b.x,I .i64 b.y,.own 1,.own 2],.row 3 1 (far.map zao),.row 270 4 (l.map zhl)] (.tup []) [.blk 206 [I .i64 f.w,I .i64 f.h,.c (.sl 1 (f.p.map zao)),I .i64 b.x,I .i64 b.y,.own 1,.own 3],.row 3 1 (far.map zao),.dead,.row 270 4 ((zew Nod.all l x).map zhl)]:=by
 have hlen:(l ++ [x]).length=l.length+1:=by simp
 have e1:IntKind.i64.wrap (((l ++ [x]).length:Int)-1)=(l.length:Int):=by rw[zaj _ (by omega) (by omega)];omega
 refine spB Tryz.func197 12 [] Tryz.results197 ?_
 try refine xz1 e1 ?_
 refine caM [0,1,2] (yae f b far l x hl) ?_
 try refine xz1 e1 ?_
 refine zc0 (zup (l ++ [x])) (WkL.refl _) rfl ?_
 try refine xz1 e1 ?_
 refine caM [0,1,3] (yir f b far (l ++ [x]) l.length (by omega) (by omega)) ?_
 try refine xz1 e1 ?_
 refine zb9 [0,1,2,3] rfl rfl (by decide) ⟨?_,?_,?_,?_,trivial⟩ trivial ?_<;>simp(etaStruct := .none)only[push_cast,zad,seval,zew]
theorem yfe (f:Fld) (b:Cel) (far:List Int)(l:List Nod) (n:Nat) (hn:n≤l.length) (hl:l.length≤1000001):Spec Tryz.prog 214 [.ifc 268 (.ptr 0 0 6),I .i64 0,I .i64 n] [.blk 206 [I .i64 f.w,I .i64 f.h,.c (.sl 1 (f.p.map zao)),I .i64 b.x,I .i64 b.y,.own 1,.own 2],.row 3 1 (far.map zao),.row 270 4 (l.map zhl)] .undef [.blk 206 [I .i64 f.w,I .i64 f.h,.c (.sl 1 (f.p.map zao)),I .i64 b.x,I .i64 b.y,.own 1,.own 2],.row 3 1 (far.map zao),.row 270 4 ((hdn Nod.all l 0 n).map zhl)]:=by
 refine spB Tryz.func214 48 [.tmp 6] Tryz.results214 ?_
 try refine xst ?_
 refine zay (fun x:List Nod × Nat=>⟨[(7,I .i64 x.2),(2,I .i64 n),(1,I .i64 0),(0,.ifc 268 (.ptr 0 0 6))],[(0,.blk 206 [I .i64 f.w,I .i64 f.h,.c (.sl 1 (f.p.map zao)),I .i64 b.x,I .i64 b.y,.own 1,.own 2]),(1,.row 3 1 (far.map zao)),(2,.row 270 4 (x.1.map zhl))],3⟩) (fun x:List Nod × Nat=>x.2≤n∧n≤x.1.length∧x.1.length≤1000001∧hdn Nod.all x.1 x.2 n=hdn Nod.all l 0 n) (fun x:List Nod × Nat=>n-x.2) ((l,0)) (⟨Nat.zero_le _,hn,hl,rfl⟩) (To.mk [0,1,2] rfl rfl (by decide) ?_ ?_) ?_
 ·exact xS
 ·exact xS
 rintro⟨m,i⟩ ⟨hi,hm,hm2,hu⟩
 simp only at hi hm hm2 hu
 obtain⟨a,ha⟩:∃a:Nat,a=2*i+1:=⟨_,rfl⟩
 obtain⟨b,hb⟩:∃b:Nat,b=2*i+2:=⟨_,rfl⟩
 have e1:IntKind.i64.wrap (IntKind.i64.wrap (2*(i:Int))+1)=(a:Int):=by rw[zaj (2*_) (by omega) (by omega),zaj _ (by omega) (by omega)];omega
 have e2:IntKind.i64.wrap ((a:Int)+1)=(b:Int):=by rw[zaj _ (by omega) (by omega)];omega
 simp(etaStruct := .none)only[push_cast,zad,seval,e1,e2]
 try refine xst ?_
 refine cI (fun h1=>?_) fun h1=>?_
 ·have e:hdn Nod.all m i n=m:=by rw[hdn,if_pos];exact .inl (by omega)
  rw[←hu,e]
  try refine xst ?_
  refine zb9 [0,1,2] rfl rfl (by decide) ⟨?_,?_,?_,trivial⟩ trivial (Wk.undef _)<;>exact xS
 ·try refine xz2 e1 e2 ?_
  refine zhj (fun hcc=>zr4 m b a (by simp only[decide_eq_true_eq]at hcc;omega) (by omega)) (WkL.refl _) rfl xG ?_
  try refine xz2 e1 e2 ?_
  refine cI (fun h2=>?_) fun h2=>?_
  ·have ek:kid Nod.all m i n=b:=by unfold kid;rw[←ha,←hb,if_pos ⟨by omega,h2.2⟩]
   try refine xz2 e1 e2 ?_
   refine zc0 (zr4 m b i (by omega) (by omega)) (WkL.refl _) rfl ?_
   try refine xz2 e1 e2 ?_
   refine cI (fun h3=>?_) fun h3=>?_
   ·have e:hdn Nod.all m i n=m:=by rw[hdn,if_pos];rw[ek];exact .inr (by omega)
    rw[←hu,e]
    try refine xz2 e1 e2 ?_
    refine zb9 [0,1,2] rfl rfl (by decide) ⟨?_,?_,?_,trivial⟩ trivial (Wk.undef _)<;>exact xS
   ·have e:hdn Nod.all m i n=hdn Nod.all (zeb m i b) b n:=by rw[hdn,if_neg,ek];rw[ek];rintro (h|h)<;>omega
    try refine xz2 e1 e2 ?_
    refine caM [2] (zry m i b (by omega) (by omega)) ?_
    try refine xz2 e1 e2 ?_
    refine⟨(zeb m i b,b),⟨by simp only;omega,by rw[za7];exact hm,by rw[za7];exact hm2,by rw[←hu,e]⟩,by simp only;omega,To.mk [0,1,2] rfl rfl (by decide) ?_ ?_⟩
    ·(try(refine xz2 e1 e2 ?_;try exact xtI))
    ·(try(refine xz2 e1 e2 ?_;try exact xtI))
  ·have ek:kid Nod.all m i n=a:=by unfold kid;rw[←ha,←hb,if_neg (fun h=>by have:=h.1;have:=h.2;omega)]
   try refine xz2 e1 e2 ?_
   refine zc0 (zr4 m a i (by omega) (by omega)) (WkL.refl _) rfl ?_
   try refine xz2 e1 e2 ?_
   refine cI (fun h4=>?_) fun h4=>?_
   ·have e:hdn Nod.all m i n=m:=by rw[hdn,if_pos];rw[ek];exact .inr (by omega)
    rw[←hu,e]
    try refine xz2 e1 e2 ?_
    refine zb9 [0,1,2] rfl rfl (by decide) ⟨?_,?_,?_,trivial⟩ trivial (Wk.undef _)<;>exact xS
   ·have e:hdn Nod.all m i n=hdn Nod.all (zeb m i a) a n:=by rw[hdn,if_neg,ek];rw[ek];rintro (h|h)<;>omega
    try refine xz2 e1 e2 ?_
    refine caM [2] (zry m i a (by omega) (by omega)) ?_
    try refine xz2 e1 e2 ?_
    refine⟨(zeb m i a,a),⟨by simp only;omega,by rw[za7];exact hm,by rw[za7];exact hm2,by rw[←hu,e]⟩,by simp only;omega,To.mk [0,1,2] rfl rfl (by decide) ?_ ?_⟩
    ·(try(refine xz2 e1 e2 ?_;try exact xtI))
    ·(try(refine xz2 e1 e2 ?_;try exact xtI))
theorem yfd (f:Fld) (b:Cel) (far:List Int)(l:List Nod) (h0:0<l.length) (hl:l.length≤1000001):Spec Tryz.prog 199 [.ifc 268 (.ptr 0 0 6)] [.blk 206 [I .i64 f.w,I .i64 f.h,.c (.sl 1 (f.p.map zao)),I .i64 b.x,I .i64 b.y,.own 1,.own 2],.row 3 1 (far.map zao),.row 270 4 (l.map zhl)] (.ifc 270 (yhz (l.getD 0 default))) [.blk 206 [I .i64 f.w,I .i64 f.h,.c (.sl 1 (f.p.map zao)),I .i64 b.x,I .i64 b.y,.own 1,.own 3],.row 3 1 (far.map zao),.dead,.row 270 4 ((zhh Nod.all l).map zhl)]:=by
 obtain⟨n,hn⟩:∃n,l.length=n+1:=⟨l.length-1,by omega⟩
 have e1:IntKind.i64.wrap ((l.length:Int)-1)=(n:Int):=by rw[zaj _ (by omega) (by omega)];omega
 have e2:=zvg Nod.all l h0
 have e3:zhh Nod.all l=(hdn Nod.all (zeb l 0 n) 0 n).take n:=by unfold zhh;rw[hn];rfl
 rw[hn,Nat.add_sub_cancel]at e2
 rw[←e2,e3]
 refine spB Tryz.func199 15 [.tmp 2] Tryz.results199 ?_
 try refine xz1 e1 ?_
 refine zc0 (zup l) (WkL.refl _) rfl ?_
 try refine xz1 e1 ?_
 refine caM [2] (zry l 0 n h0 (by omega)) ?_
 try refine xz1 e1 ?_
 refine caM [0,1,2] (yfe f b far (zeb l 0 n) n (by rw[za7];omega) (by rw[za7];omega)) ?_
 try refine xz1 e1 ?_
 refine caM [0,1,2] (ye4 f b far (hdn Nod.all (zeb l 0 n) 0 n) n (by rw[zsq,za7];exact hn) (by rw[zsq,za7];exact hl)) ?_
 try refine xz1 e1 ?_
 refine zb9 [0,1,2,3] rfl rfl (by decide) ⟨?_,?_,?_,?_,trivial⟩ trivial ?_<;>exact xS
theorem zhm (n:Nat) (h:n<18446744073709551616):IntKind.u64.wrap (n:Int)=n:=by rw[IntKind.wrap_u64];omega
theorem zjk (n:Nat) (h:n<4294967296):bits .and .u64 (n:Int) 4294967295=(n:Int):=by
 show IntKind.u64.wrap ((BitVec.ofInt 64 (n:Int) &&& BitVec.ofInt 64 ((4294967295:Nat):Int)).toNat:Nat)=_
 rw[BitVec.toNat_and,BitVec.ofInt_natCast,BitVec.ofInt_natCast,BitVec.toNat_ofNat,BitVec.toNat_ofNat,Nat.mod_eq_of_lt (show n<2 ^ 64 by omega),Nat.mod_eq_of_lt (show 4294967295<2 ^ 64 by decide)]
 have:n &&& 4294967295=n:=by rw[show (4294967295:Nat)=2 ^ 32-1 from rfl,Nat.and_two_pow_sub_one_eq_mod,Nat.mod_eq_of_lt (by omega)]
 rw[this]
 exact zhm n (by omega)
theorem yfg (n:Nat) (h:n≤1600):Spec Tryz.prog 210 [.c (.v (.int .u64 1)),.c (.v (.int .u64 n))] [] (.tup [.c (.v (.int .u64 0)),.c (.v (.int .u64 n))]) []:=by
 have a1:=zjk n (by omega)
 have a2:bits .and .u64 1 4294967295=1:=zjk 1 (by decide)
 have a3:bits .and .u64 0 4294967295=0:=zjk 0 (by decide)
 have w1:∀x:Int,0≤x→x≤1600→IntKind.u64.wrap x=x:=fun x h1 h2=>by
  obtain⟨k,rfl⟩:=Int.eq_ofNat_of_zero_le h1
  exact zhm k (by omega)
 have d1:(n:Int).fdiv 4294967296=0:=by rw[Int.fdiv_eq_ediv_of_nonneg _ (by decide)];omega
 have d2:(1:Int).fdiv 4294967296=0:=rfl
 have d3:(0:Int).fdiv 4294967296=0:=rfl
 have e1:IntKind.u64.wrap (n:Int)=n:=w1 _ (by omega) (by omega)
 have e0:IntKind.u64.wrap 0=0:=rfl
 have hm:(2:Int) ^ min 32 IntKind.u64.bits=4294967296:=rfl
 refine spB Tryz.func210 51 [.tmp 4,.tmp 5] Tryz.results210 ?_
 iterate 2(try simp(etaStruct := .none)only[push_cast,zad,seval,hm,a1,a2,a3,d1,d2,d3,e1,e0,Int.mul_zero,Int.zero_mul,Int.one_mul,Int.add_zero,Int.zero_add];try refine xsu ?_)
 exact xrz rfl
theorem ym0 (n:Nat) (h:n≤1600):Spec Tryz.prog 195 [.c (.v (.int .u64 1)),.c (.v (.int .u64 n))] [] (.tup [.c (.v (.int .u64 0)),.c (.v (.int .u64 n))]) []:=by
 refine spB Tryz.func195 30 [.tmp 4,.tmp 5] Tryz.results195 ?_
 try refine xst ?_
 refine cI (fun h1=>?_) fun h1=>?_
 ·exact absurd h1 (by decide)
 ·try refine xst ?_
  refine caP (yfg n h) ?_
  try refine xst ?_
  exact xrz rfl
def rp (k n:Nat):List Int:=List.replicate k (-1)++List.replicate (n-k) 0
theorem yii {k n:Nat} (h:k≤n):(rp k n).length=n:=by unfold rp;simp;omega
theorem z4l {k n:Nat} (h:k≤n):(rp k n).take k=List.replicate k (-1):=by unfold rp;rw[List.take_append_of_le_length (by simp)];simp
theorem zp7 {α β : Type} (f : α → β) (l:List α) (o:Nat) (m:List α):zaz (l.map f) o (m.map f)=(zaz l o m).map f:=by
 unfold zaz
 rw[List.map_append,List.map_append,List.map_take,List.map_drop,List.length_map]
theorem yeo {k n:Nat} (h:k≤n):zaz (rp k n) k ((List.replicate k (-1)).take (n-k))=rp (k+min k (n-k)) n:=by
 rw[List.take_replicate]
 unfold zaz
 rw[z4l h,List.length_replicate]
 unfold rp
 rw[List.drop_append,List.length_replicate,List.drop_of_length_le (by simp),List.nil_append,show k+min (n-k) k-k=min (n-k) k from by omega,List.drop_replicate,←List.append_assoc,List.replicate_append_replicate,Nat.min_comm (n-k) k,show n-k-min k (n-k)=n-(k+min k (n-k))from by omega]
theorem z9v {n:Nat} (h:1≤n):zaz (List.replicate n (0:Int)) 0 ([(-1:Int)].take n)=rp 1 n:=by
 obtain⟨m,rfl⟩:∃m,n=m+1:=⟨n-1,by omega⟩
 unfold zaz rp
 simp
theorem zy3 (n:Nat) (hpos:1≤n) (h:n≤1600):Spec Tryz.prog 171 [.own 0,I .i64 n] [.row 3 1 [[pI (-1)]]] (.own 1) [.row 3 1 [[pI (-1)]],.row 3 1 ((List.replicate n (-1:Int)).map zao)]:=by
 have e1:IntKind.u64.wrap (n:Int)=n:=zhm n (by omega)
 have e2:IntKind.u64.wrap 1=1:=rfl
 have e3:IntKind.i64.wrap (n:Int)=n:=zaj _ (by omega) (by omega)
 have hf:=z9v hpos
 have hf2:zaz (List.replicate n [pI 0]) 0 (([[pI (-1)]]:List (List PV)).take n)=(rp 1 n).map zao:=by rw[←hf,←zp7];simp[zao]
 have hmn:min 1 n=1:=by omega
 refine spB Tryz.func171 48 [.tmp 4] Tryz.results171 ?_
 try refine xz3 e1 e2 e3 ?_
 refine cI (fun h1=>?_) fun h1=>?_
 ·exfalso;omega
 ·try refine xz3 e1 e2 e3 ?_
  refine caP (ym0 n h) ?_
  try refine xz3 e1 e2 e3 ?_
  refine cI (fun h2=>?_) fun h2=>?_
  ·exfalso;omega
  ·try refine xz3 e1 e2 e3 ?_
   refine zay (fun k:Nat=>⟨[(8,I .i64 k),(7,.own 1)],[(0,.row 3 1 [[pI (-1)]]),(1,.row 3 1 ((rp k n).map zao))],2⟩) (fun k:Nat=>1≤k∧k≤n) (fun k:Nat=>n-k) (1) (⟨Nat.le_refl _,hpos⟩) (To.mk [0,1] rfl rfl (by decide) ?_ ?_) ?_
   ·simp(etaStruct := .none)only[push_cast,zad,seval,List.length_replicate]
    simpa only[zaz,List.take_zero,List.nil_append,Nat.zero_add]using hf2
   ·simp(etaStruct := .none)only[push_cast,zad,seval,List.length_replicate,hmn]
   rintro k ⟨hk1,hk⟩
   have hrl:=yii hk
   have hrc:=yeo hk
   have htk:((rp k n).map zao).take k=(List.replicate k (-1:Int)).map zao:=by rw[←List.map_take,z4l hk]
   have hs2:zaz ((rp k n).map zao) k ((((rp k n).map zao).take k).take (n-k))=(rp (k+min k (n-k)) n).map zao:=by rw[htk,←List.map_take,zp7,hrc]
   have hl2:(((rp k n).map zao).take k).length=k:=by rw[List.length_take,List.length_map,hrl];omega
   unfold zaz at hs2
   try refine xz3 e1 e2 e3 ?_
   refine cI (fun h3=>?_) fun h3=>?_
   ·skip
    try refine xz3 e1 e2 e3 ?_
    (try(refine⟨by kernel_rfl,?_⟩))
    try refine xz3 e1 e2 e3 ?_
    refine⟨k+min k (n-k),⟨by omega,by omega⟩,by omega,To.mk [0,1] rfl rfl (by decide) ?_ ?_⟩
    ·try refine xz1 hrl ?_
     exact hs2
    ·(try(refine xz2 hl2 hrl ?_;try exact xtI))
   ·obtain rfl:k=n:=by omega
    have hrn:rp k k=List.replicate k (-1):=by unfold rp;simp
    try refine xz3 e1 e2 e3 ?_
    refine zb9 [0,1] rfl rfl (by decide) ⟨?_,?_,trivial⟩ trivial ?_<;>simp(etaStruct := .none)only[push_cast,zad,seval,hrn]
abbrev ymo (f:Fld) (b:Cel) (far:List Int) (q:List Nod):List PV := [pI f.w,pI f.h,.sl 1 (f.p.map zao),pI b.x,pI b.y,.sl 1 (far.map zao),.sl 4 (q.map zhl)]
theorem zft (f:Fld) (b:Cel) (far:List Int) (q:List Nod) (c:Cel) (hf:zbl f=0) (hc:inF f c=true):Spec Tryz.prog 131 [.fel 7 [ymo f b far q] 0 0,zeu c] [] (I .i64 (zaw f c)) []:=by
 obtain⟨i1,i2,i3,i4,i5⟩:=zbb hf hc
 have hci:=inF_iff.1 hc
 have e1:IntKind.i64.wrap (IntKind.i64.wrap (c.y*f.w)+c.x)=(zaw f c:Int):=by rw[zaj (c.y*f.w) (by omega) (by omega),zaj _ (by omega) (by omega)];unfold zaw;omega
 refine spB Tryz.func131 16 [.tmp 4] Tryz.results131 ?_
 try refine xz1 e1 ?_
 (try(refine⟨by kernel_rfl,?_⟩))
 try refine xz1 e1 ?_
 exact xrz rfl
def zdn (f:Fld) (c:Cel):Int × Bool:=if inF f c then (if zar f c=1 then (0,false)else (kV (zar f c),true))else (0,false)
theorem zw3 (f:Fld) (b:Cel) (far:List Int) (q:List Nod) (c:Cel) (hf:zbl f=0):Spec Tryz.prog 129 [.fel 7 [ymo f b far q] 0 0,zeu c] [] (.tup [I .i64 (zdn f c).1,B (zdn f c).2]) []:=by
 have hfo:=za4 hf
 have hav:atV f c=if inF f c then (zar f c,0)else (0,7):=by unfold atV;rw[if_neg (by simp[hf])]
 have hm:f.w*f.h≤40*40:=Int.mul_le_mul hfo.1.2 hfo.2.1.2 (by omega) (by omega)
 refine spB Tryz.func129 28 [.tmp 4,.tmp 5] Tryz.results129 ?_
 try refine xst ?_
 refine caP (z2n f c (by omega)) ?_
 rw[hav]
 try refine xst ?_
 (try(refine⟨by kernel_rfl,?_⟩))
 try refine xst ?_
 refine cI (fun h1=>?_) fun h1=>?_
 ·have hin:inF f c=false:=by
   cases hc:inF f c with
   | false=>rfl
   | true=>rw[hc]at h1;simp at h1
  have e:zdn f c=(0,false):=by unfold zdn;rw[if_neg (by simp[hin])]
  rw[e]
  try refine xst ?_
  exact xrz rfl
 ·have hin:inF f c=true:=by
   cases hc:inF f c with
   | true=>rfl
   | false=>rw[hc]at h1;simp at h1
  rw[if_pos hin]
  try refine xst ?_
  refine caP (yj5 (zar f c)) ?_
  have hpl:=hfo.2.2.2 _ (zax f.p _ (show (c.y*f.w+c.x).toNat<f.p.length by have:=zbb hf hin;omega))
  have hcv:=yb1 (q:=zar f c) hpl
  have e:zdn f c=if zar f c=1 then (0,false)else (kV (zar f c),true):=by unfold zdn;rw[if_pos hin]
  have e3:(zdn f c).1=(zxx (zar f c)).1∧(zdn f c).2=decide ((zxx (zar f c)).2=0):=by
   rw[e]
   rcases hcv with h|h
   ·rw[if_pos h.1,h.2];exact⟨rfl,rfl⟩
   ·rw[if_neg h.1,h.2];exact⟨rfl,rfl⟩
  rw[e3.1,e3.2]
  try refine xst ?_
  exact xrz rfl
theorem zy7 (c:Cel) (hx : -1000000≤c.x∧c.x≤1000000) (hy : -1000000≤c.y∧c.y≤1000000):Spec Tryz.prog 130 [zeu c] [] (.agg [I .i64 c.x,I .i64 (c.y-1),I .i64 (c.x-1),I .i64 c.y,I .i64 (c.x+1),I .i64 c.y,I .i64 c.x,I .i64 (c.y+1)]) []:=by
 refine spB Tryz.func130 28 [.cell 2 201] Tryz.results130 ?_
 try refine xst ?_
 exact xrz rfl
def zb3 (b c:Cel):Int:=2*(((b.x-c.x).natAbs+(b.y-c.y).natAbs:Nat):Int)
def lk (f:Fld) (b:Cel) (far:List Int) (d:Int) (q:List Nod) (c:Cel):List Nod:=if (zdn f c).2=true∧far.getD (zaw f c) default<0 then zew Nod.all q ⟨c,d+(zdn f c).1,d+(zdn f c).1+zb3 b c⟩else q
def zf5 (f:Fld) (b:Cel) (far:List Int) (d:Int) (q:List Nod) (l:List Cel):List Nod:=l.foldl (lk f b far d) q
theorem zqs (f:Fld) (b:Cel) (far:List Int) (d:Int) (q:List Nod) (l:List Cel) (c:Cel):zf5 f b far d q (l ++ [c])=lk f b far d (zf5 f b far d q l) c:=by unfold zf5;rw[List.foldl_append];rfl
theorem yi3 (f:Fld) (b:Cel) (far:List Int) (d:Int) (q:List Nod) (c:Cel):(lk f b far d q c).length≤q.length+1:=by
 unfold lk;split
 ·rw[zo2];exact Nat.le_refl _
 ·omega
theorem zow (f:Fld) (b:Cel) (far:List Int) (d:Int) (l:List Cel):∀q:List Nod,(zf5 f b far d q l).length≤q.length+l.length:=by
 induction l with
 | nil=>intro q;exact Nat.le_refl _
 | cons c r ih=>intro q;have h1:=ih (lk f b far d q c);have h2:=yi3 f b far d q c;simp only[zf5,List.foldl_cons,List.length_cons]at *;omega
def goB (f:Fld) (b:Cel) (far:List Int) (q:List Nod):Prop:=0<q.length∧(far.getD (zaw f b) default<0∨(q.getD 0 default).all≤far.getD (zaw f b) default)
def zn5 (f:Fld) (b:Cel):Nat→List Int→List Nod→List Int × List Nod
 | 0,far,q=>(far,q)
 | N+1,far,q=>if 0<q.length∧(far.getD (zaw f b) default<0∨(q.getD 0 default).all≤far.getD (zaw f b) default)then
  (if 0≤far.getD (zaw f (q.getD 0 default).c) default then zn5 f b N far (zhh Nod.all q)
   else zn5 f b N (far.set (zaw f (q.getD 0 default).c) (q.getD 0 default).far) (zf5 f b (far.set (zaw f (q.getD 0 default).c) (q.getD 0 default).far) (q.getD 0 default).far (zhh Nod.all q) (zam (q.getD 0 default).c)))
  else (far,q)
section
variable {f : Fld} {W H : Nat}
theorem zx1 (hw:f.w=(W:Int)) (hh:f.h=(H:Int)) (hW:0<W) {p:Nat} (hp:p<W*H):inF f (ze0 W p)=true∧zaw f (ze0 W p)=p:=by
 have h1:=Nat.div_add_mod p W
 have h2:=Nat.mod_lt p hW
 have h3:p/W<H:=by rw[Nat.div_lt_iff_lt_mul hW,Nat.mul_comm];exact hp
 unfold ze0 zaw
 refine⟨inF_iff.2 ⟨⟨Int.natCast_nonneg _,by simp only;rw[hw];exact Int.ofNat_lt.2 h2⟩,Int.natCast_nonneg _,by simp only;rw[hh];exact Int.ofNat_lt.2 h3⟩,?_⟩
 simp only
 rw[hw,show ((p/W:Nat):Int)*(W:Int)=((W*(p/W):Nat):Int)from by rw[Nat.mul_comm,Int.natCast_mul]]
 omega
theorem zbz (hw:f.w=(W:Int)) (hh:f.h=(H:Int)) (hW:0<W) (hf:zbl f=0) {c:Cel} (hc:inF f c=true):c=ze0 W (zaw f c)∧zaw f c<f.p.length:=by
 obtain⟨i1,i2,i3,i4,i5⟩:=zbb hf hc
 have hci:=inF_iff.1 hc
 obtain⟨x,hx⟩:∃x:Nat,c.x=(x:Int):=Int.eq_ofNat_of_zero_le hci.1.1
 obtain⟨y,hy⟩:∃y:Nat,c.y=(y:Int):=Int.eq_ofNat_of_zero_le hci.2.1
 have e:zaw f c=W*y+x:=by
  unfold zaw
  rw[hx,hy,hw,show (y:Int)*(W:Int)=((W*y:Nat):Int)from by rw[Nat.mul_comm,Int.natCast_mul]]
  omega
 have hxW:x<W:=by omega
 refine⟨?_,by unfold zaw;omega⟩
 rw[e]
 unfold ze0
 rw[Nat.mul_add_mod,Nat.mod_eq_of_lt hxW,Nat.mul_add_div hW,Nat.div_eq_of_lt hxW,Nat.add_zero,←hx,←hy]
theorem zso (hw:f.w=(W:Int)) (hh:f.h=(H:Int)) (hW:0<W) (b:Cel):ykm W (W*H) fun p=>zb3 b (ze0 W p):=by
 intro p n hp hn ha
 have key:∀c c':Cel,(c.x=c'.x∧(c.y=c'.y+1∨c'.y=c.y+1))∨(c.y=c'.y∧(c.x=c'.x+1∨c'.x=c.x+1))→zb3 b c≤zb3 b c'+2:=by
  intro c c' h;unfold zb3;omega
 refine key _ _ ?_
 have h1:=Nat.div_add_mod p W
 have h2:=Nat.div_add_mod n W
 have m1:=Nat.mod_lt p hW
 have m2:=Nat.mod_lt n hW
 unfold ze0
 simp only
 have up:∀m:Nat,(m+W) % W=m % W∧(m+W)/W=m/W+1:=fun m=>⟨Nat.add_mod_right m W,Nat.add_div_right m hW⟩
 have side:∀m:Nat,0<(m+1) % W→(m+1) % W=m % W+1∧(m+1)/W=m/W:=fun m h=>by
  have hs:=zyr hW m
  have hl:=Nat.mod_lt m hW
  have hd:=Nat.div_add_mod m W
  split at hs
  ·omega
  ·rename_i hne
   refine⟨hs,?_⟩
   have hlt:m % W+1<W:=by omega
   have:m+1=W*(m/W)+(m % W+1):=by rw[←Nat.add_assoc,Nat.div_add_mod]
   rw[this,Nat.mul_add_div hW,Nat.div_eq_of_lt hlt,Nat.add_zero]
 rcases ha with h|⟨h,h'⟩|⟨h,h'⟩|h
 ·obtain⟨u1,u2⟩:=up n;rw[h]at u1 u2;exact .inl ⟨by omega,.inl (by omega)⟩
 ·obtain⟨u1,u2⟩:=side n (by rw[h];exact h');rw[h]at u1 u2;exact .inr ⟨by omega,.inl (by omega)⟩
 ·obtain⟨u1,u2⟩:=side p (by rw[h];exact h');rw[h]at u1 u2;exact .inr ⟨by omega,.inr (by omega)⟩
 ·obtain⟨u1,u2⟩:=up p;rw[h]at u1 u2;exact .inl ⟨by omega,.inr (by omega)⟩
theorem z6h (hw:f.w=(W:Int)) (hh:f.h=(H:Int)) (hW:0<W) (hf:zbl f=0) (hL:f.p.length=W*H) (b:Cel) {a p:Nat} {far:List Int} {q:List Nod} {done:Nat→Nat→Prop} {d:Int} (h:As W f.p a (fun n=>zb3 b (ze0 W n)) far q done) (hp:p<f.p.length) (hd:far.getD p default=d) (h0:0≤d)
 (top:∀m,m<f.p.length→0≤far.getD m default→far.getD m default+zb3 b (ze0 W m)≤d+zb3 b (ze0 W p)) (hb:d+3≤3*ziz zf3 far) (c:Cel) (hc:inF f c=true→Adj W p (zaw f c)) :
 As W f.p a (fun n=>zb3 b (ze0 W n)) far (lk f b far d q c) fun x n=>done x n∨(x=p∧inF f c=true∧n=zaw f c):=by
 have hcons:=zso hw hh hW b
 rw[←hL]at hcons
 cases hin:inF f c with
 | false =>
  have e:lk f b far d q c=q:=by unfold lk zdn;rw[if_neg (by rw[hin];simp)]
  rw[e]
  refine⟨h.len,h.low,h.heap,h.itm,h.src,h.why,h.top,fun u v h1 h2 h3 h4=>h.all u v h1 h2 h3 ?_⟩
  rcases h4 with h4|h4
  ·exact h4
  ·exact absurd h4.2.1 (by decide)
 | true =>
  obtain⟨e1,e2⟩:=zbz hw hh hW hf hin
  have epl:zar f c=f.p.getD (zaw f c) default:=rfl
  refine h.look hcons (n:=zaw f c) e2 hp (hc hin) (by rw[hd];exact h0) (fun m h1 h2=>by rw[hd];exact top m h1 h2) (by rw[hd];exact hb) _ (fun x y h4=>by
   rcases h4 with h4|h4
   ·exact .inl h4
   ·exact .inr ⟨h4.1,h4.2.2⟩) ?_
  unfold lk zdn
  rw[if_pos hin,epl,hd]
  by_cases hr:f.p.getD (zaw f c) default=1
  ·rw[if_pos hr,if_neg (by simp)]
   exact .inl ⟨.inl hr,rfl⟩
  ·rw[if_neg hr]
   by_cases hn:far.getD (zaw f c) default<0
   ·rw[if_pos ⟨rfl,hn⟩,←e1]
    exact .inr ⟨hr,hn,rfl⟩
   ·rw[if_neg (fun h=>hn h.2)]
    exact .inl ⟨.inr (by omega),rfl⟩
theorem znx (hw:f.w=(W:Int)) (hh:f.h=(H:Int)) (hW:0<W) {p:Nat} (hp:p<W*H) {c:Cel} (hc:c∈zam (ze0 W p)) (hin:inF f c=true):Adj W p (zaw f c):=by
 obtain⟨bm,_⟩:=zl3 f hw hh hW hp
 have:zaw f c∈zd3 W H p:=by rw[←bm];exact List.mem_map_of_mem (List.mem_filter.2 ⟨hc,hin⟩)
 exact((zik hW hp).1 this).2
theorem zv5 (hw:f.w=(W:Int)) (hh:f.h=(H:Int)) (hW:0<W) {p n:Nat} (hp:p<W*H) (hn:n<W*H) (ha:Adj W p n):∃c∈zam (ze0 W p),inF f c=true∧n=zaw f c:=by
 obtain⟨bm,_⟩:=zl3 f hw hh hW hp
 have:=(zik hW hp).2 ⟨hn,ha⟩
 rw[←bm]at this
 obtain⟨c,hc,e⟩:=List.mem_map.1 this
 obtain⟨h1,h2⟩:=List.mem_filter.1 hc
 exact⟨c,h1,h2,e.symm⟩
def yj2 (f:Fld) (W p k:Nat) (x n:Nat):Prop:=x≠p∨∃c∈(zam (ze0 W p)).take k,inF f c=true∧n=zaw f c
theorem yc5 (hw:f.w=(W:Int)) (hh:f.h=(H:Int)) (hW:0<W) (hf:zbl f=0) (hL:f.p.length=W*H) (b:Cel) {a p:Nat} {far:List Int} {q:List Nod} {d:Int} (h:As W f.p a (fun n=>zb3 b (ze0 W n)) far q (fun x _=>x≠p)) (hp:p<f.p.length) (hd:far.getD p default=d) (h0:0≤d)
 (top:∀m,m<f.p.length→0≤far.getD m default→far.getD m default+zb3 b (ze0 W m)≤d+zb3 b (ze0 W p)) (hb:d+3≤3*ziz zf3 far):∀k,k≤4→As W f.p a (fun n=>zb3 b (ze0 W n)) far (zf5 f b far d q ((zam (ze0 W p)).take k)) (yj2 f W p k):=by
 intro k
 induction k with
 | zero =>
  intro _
  refine⟨h.len,h.low,h.heap,h.itm,h.src,h.why,h.top,fun u v h1 h2 h3 h4=>h.all u v h1 h2 h3 ?_⟩
  rcases h4 with h4|⟨c,hc,_⟩
  ·exact h4
  ·simp at hc
 | succ k ih =>
  intro hk
  have hlt:k<(zam (ze0 W p)).length:=by rw[show (zam (ze0 W p)).length=4 from rfl];omega
  rw[zak _ _ hlt,zqs]
  have:=z6h hw hh hW hf hL b (ih (by omega)) hp hd h0 top hb ((zam (ze0 W p)).getD k default) (fun hin=>znx hw hh hW (by omega) (zax _ _ hlt) hin)
  refine⟨this.len,this.low,this.heap,this.itm,this.src,this.why,this.top,fun u v h1 h2 h3 h4=>this.all u v h1 h2 h3 ?_⟩
  rcases h4 with h4|⟨c,hc,h5,h6⟩
  ·exact .inl (.inl h4)
  ·rw[zak _ _ hlt,List.mem_append,List.mem_singleton]at hc
   by_cases hu:u=p
   ·rcases hc with hc|hc
    ·exact .inl (.inr ⟨c,hc,h5,h6⟩)
    ·subst hc;exact .inr ⟨hu,h5,h6⟩
   ·exact .inl (.inl hu)
theorem zzx (hw:f.w=(W:Int)) (hh:f.h=(H:Int)) (hW:0<W) (hL:f.p.length=W*H) {a p:Nat} {hf2:Nat→Int} {far:List Int} {q:List Nod} (hp:p<f.p.length) (h:As W f.p a hf2 far q (yj2 f W p 4)):As W f.p a hf2 far q fun _ _=>True:=by
 refine⟨h.len,h.low,h.heap,h.itm,h.src,h.why,h.top,fun u v h1 h2 h3 _=>h.all u v h1 h2 h3 ?_⟩
 by_cases hu:u=p
 ·subst hu;exact .inr (zv5 hw hh hW (by omega) (by omega) h3)
 ·exact .inl hu
end
def muS (f:Fld) (far:List Int) (q:List Nod):Nat:=5*(f.p.length-ziz zf3 far)+q.length
section
variable {f : Fld} {W H : Nat}
theorem z00 (hw:f.w=(W:Int)) (hh:f.h=(H:Int)) (hW:0<W) (hf:zbl f=0) (hL:f.p.length=W*H) (b:Cel) {a:Nat} {far:List Int} {q:List Nod} (h:As W f.p a (fun n=>zb3 b (ze0 W n)) far q fun _ _=>True) (hq:0<q.length) (h0:far.getD (zaw f (q.getD 0 default).c) default<0) :
 ∃p,(q.getD 0 default).c=ze0 W p∧zaw f (q.getD 0 default).c=p∧p<f.p.length∧0≤(q.getD 0 default).far∧As W f.p a (fun n=>zb3 b (ze0 W n)) (far.set p (q.getD 0 default).far) (zhh Nod.all q) (fun x _=>x≠p)∧(far.set p (q.getD 0 default).far).getD p default=(q.getD 0 default).far∧ziz zf3 (far.set p (q.getD 0 default).far)=ziz zf3 far+1 ∧
  (∀m,m<f.p.length→0≤(far.set p (q.getD 0 default).far).getD m default→(far.set p (q.getD 0 default).far).getD m default+zb3 b (ze0 W m)≤(q.getD 0 default).far+zb3 b (ze0 W p))∧(q.getD 0 default).far+3≤3*ziz zf3 (far.set p (q.getD 0 default).far):=by
 obtain⟨p,e1,hp,j0,jb,ja,jm,jw⟩:=h.itm _ ((zg8 Nod.all q hq _).2 (.inl rfl))
 have hidx:zaw f (q.getD 0 default).c=p:=by rw[e1];exact(zx1 hw hh hW (by omega)).2
 rw[hidx]at h0
 obtain⟨_,hA⟩:=h.close hW hq e1 h0
 have hpL:p<far.length:=by rw[h.len];exact hp
 have G:=fun k=>zny (q.getD 0 default).far k hpL
 have cnt:ziz zf3 (far.set p (q.getD 0 default).far)=ziz zf3 far+1:=by
  have:=zic zf3 far p (q.getD 0 default).far hpL
  simp only[zf3,if_neg (show ¬0≤far.getD p default by omega),if_pos j0]at this;simpa[zf3]using this
 refine⟨p,e1,hidx,hp,j0,hA,by rw[G,if_pos rfl],cnt,fun m hm hm0=>?_,by rw[cnt];omega⟩
 rw[G]at hm0 ⊢
 split
 ·rename_i e;subst e;exact Int.le_refl _
 ·rename_i e
  rw[if_neg e]at hm0
  have:=jm m hm hm0
  omega
theorem yih (hw:f.w=(W:Int)) (hh:f.h=(H:Int)) (hW:0<W) (hf:zbl f=0) (hL:f.p.length=W*H) (b:Cel) {a:Nat} : ∀(N:Nat) (far:List Int) (q:List Nod),As W f.p a (fun n=>zb3 b (ze0 W n)) far q (fun _ _=>True)→muS f far q≤N →
 As W f.p a (fun n=>zb3 b (ze0 W n)) (zn5 f b N far q).1 (zn5 f b N far q).2 (fun _ _=>True)∧¬goB f b (zn5 f b N far q).1 (zn5 f b N far q).2:=by
 intro N
 induction N with
 | zero =>
  intro far q h hm
  refine⟨h,fun hg=>?_⟩
  have:=hg.1
  simp only[zn5]at this
  unfold muS at hm;omega
 | succ N ih =>
  intro far q h hm
  rw[zn5]
  split
  ·rename_i hg
   have hcl:=zhr zf3 1 zhz far
   rw[h.len]at hcl
   split
   ·rename_i h0
    obtain⟨p,e1,hp,_⟩:=h.itm _ ((zg8 Nod.all q hg.1 _).2 (.inl rfl))
    have hidx:zaw f (q.getD 0 default).c=p:=by rw[e1];exact(zx1 hw hh hW (by omega)).2
    rw[hidx]at h0
    exact ih _ _ (h.skip hg.1 e1 h0) (by unfold muS at *;rw[zin];omega)
   ·rename_i h0
    obtain⟨p,e1,hidx,hp,j0,hA,hself,cnt,top,hb⟩:=z00 hw hh hW hf hL b h hg.1 (by omega)
    have h4:=yc5 hw hh hW hf hL b hA hp hself j0 top hb 4 (Nat.le_refl _)
    rw[show (zam (ze0 W p)).take 4=zam (ze0 W p)from rfl]at h4
    have h5:=zzx hw hh hW hL hp h4
    rw[hidx,e1]
    refine ih _ _ h5 ?_
    have hll:=zow f b (far.set p (q.getD 0 default).far) (q.getD 0 default).far (zam (ze0 W p)) (zhh Nod.all q)
    have hcl2:=zhr zf3 1 zhz (far.set p (q.getD 0 default).far)
    rw[List.length_set,h.len]at hcl2
    rw[zin,show (zam (ze0 W p)).length=4 from rfl]at hll
    unfold muS at *
    rw[cnt];omega
  ·rename_i hg
   exact⟨h,hg⟩
end
theorem ye0 (f:Fld) (b:Cel) (far:List Int) (l:List Nod) (c:Cel) (d:Int) (hl:l.length≤1000000) (hx : -1000≤c.x∧c.x≤1000) (hy : -1000≤c.y∧c.y≤1000) (hbx:0≤b.x∧b.x≤40) (hby:0≤b.y∧b.y≤40) (hd:0≤d∧d≤1000000):Spec Tryz.prog 172 [.ptr 0 0 0,zeu c,I .i64 d] [.blk 206 [I .i64 f.w,I .i64 f.h,.c (.sl 1 (f.p.map zao)),I .i64 b.x,I .i64 b.y,.own 1,.own 2],.row 3 1 (far.map zao),.row 270 4 (l.map zhl)] (.tup []) [.blk 206 [I .i64 f.w,I .i64 f.h,.c (.sl 1 (f.p.map zao)),I .i64 b.x,I .i64 b.y,.own 1,.own 3],.row 3 1 (far.map zao),.dead,.row 270 4 ((zew Nod.all l ⟨c,d,d+zb3 b c⟩).map zhl)]:=by
 have e1:IntKind.i64.wrap (d+IntKind.i64.wrap (2*(((b.x-c.x).natAbs+(b.y-c.y).natAbs:Nat):Int)))=d+zb3 b c:=by unfold zb3;rw[zaj (2*_) (by omega) (by omega),zaj _ (by omega) (by omega)]
 refine spB Tryz.func172 32 [] Tryz.results172 ?_
 try refine xz1 e1 ?_
 refine caP (zsi c b (by simp[zeo];omega) (by simp[zeo];omega)) ?_
 try refine xz1 e1 ?_
 (try(refine⟨by kernel_rfl,?_⟩))
 try refine xz1 e1 ?_
 refine zcn [0,1,2] (yaj f b far l ⟨c,d,d+zb3 b c⟩ hl) (WkL.refl _) rfl (by decide) (by simp[za6,zdf,zjc]) ?_
 try refine xz1 e1 ?_
 (try(refine⟨by kernel_rfl,?_⟩))
 try refine xz1 e1 ?_
 refine zb9 [0,1,2,104] rfl rfl (by decide) ⟨?_,?_,?_,?_,trivial⟩ trivial ?_<;>exact xS
def zpp (R:List Int) (f:Fld) (c n:Cel):Bool:=decide (0≤R.getD (zaw f n) default)&&decide (R.getD (zaw f n) default+kV (zar f c)=R.getD (zaw f c) default)
def zmx (R:List Int) (f:Fld) (c:Cel):Cel:=((zco f c).find? (zpp R f c)).getD default
def zpm (R:List Int) (f:Fld) (a:Cel):Nat→Cel→List Cel
 | 0,_ => []
 | N+1,c=>if c=a then []else zmx R f c::zpm R f a N (zmx R f c)
def zmd (R:List Int) (f:Fld) (a b:Cel):List Cel:=(b::zpm R f a (R.getD (zaw f b) default).toNat b).reverse
def zek (R:List Int) (f:Fld) (a b:Cel):Int:=if zbl f≠0 then zbl f else if ¬(inF f a=true∧inF f b=true)then 7 else if zar f a=1∨zar f b=1 then 9 else if R.getD (zaw f b) default<0 then 6 else 0
theorem zv3 {f:Fld} {W H:Nat} (hw:f.w=(W:Int)) (hh:f.h=(H:Int)) (hW:0<W) (hf:zbl f=0) (hL:f.p.length=W*H) {c n:Cel} (hc:inF f c=true) (hn:n∈zco f c):inF f n=true∧Adj W (zaw f c) (zaw f n)∧zaw f n<f.p.length:=by
 obtain⟨h1,h2⟩:=List.mem_filter.1 hn
 obtain⟨e1,e2⟩:=zbz hw hh hW hf hc
 rw[e1]at h1
 exact⟨h2,znx hw hh hW (by omega) h1 h2,(zbz hw hh hW hf h2).2⟩
theorem yiv {f:Fld} {W H:Nat} (hw:f.w=(W:Int)) (hh:f.h=(H:Int)) (hW:0<W) (hf:zbl f=0) (hL:f.p.length=W*H) {a c:Cel} {R:List Int} (hR:Flood W f.p [zaw f a] R) (ha:inF f a=true) (hc:inF f c=true) (hca:c≠a) (h0:0≤R.getD (zaw f c) default) :
 ∃n∈zco f c,zpp R f c n=true:=by
 obtain⟨e1,e2⟩:=zbz hw hh hW hf hc
 rcases hR.why _ e2 h0 with ⟨h1,h2⟩|⟨m,hm,hadj,hr,h3,h4⟩
 ·rw[List.mem_singleton]at h1
  have:=(zbz hw hh hW hf ha).1
  rw[←h1,←e1]at this
  exact absurd this.symm hca
 ·have hp:=hR.all m _ hm e2 hadj.symm h3 hr
  obtain⟨n,hn,hin,rfl⟩:=zv5 hw hh hW (by omega) (by omega) hadj
  rw[←e1]at hn
  refine⟨n,List.mem_filter.2 ⟨hn,hin⟩,?_⟩
  unfold zpp
  have epl:zar f c=f.p.getD (zaw f c) default:=rfl
  rw[epl,bJ,decide_eq_true_eq,decide_eq_true_eq]
  exact⟨h3,by omega⟩
theorem zur {f:Fld} {W H:Nat} (hw:f.w=(W:Int)) (hh:f.h=(H:Int)) (hW:0<W) (hf:zbl f=0) (hL:f.p.length=W*H) {a c:Cel} {R:List Int} (hR:Flood W f.p [zaw f a] R) (ha:inF f a=true) (hc:inF f c=true) (hca:c≠a) (h0:0≤R.getD (zaw f c) default) :
 (zco f c).find? (zpp R f c)=some (zmx R f c)∧zmx R f c∈zco f c∧inF f (zmx R f c)=true∧Adj W (zaw f c) (zaw f (zmx R f c))∧0≤R.getD (zaw f (zmx R f c)) default∧R.getD (zaw f (zmx R f c)) default+kV (zar f c)=R.getD (zaw f c) default:=by
 obtain⟨n,hn,hp⟩:=yiv hw hh hW hf hL hR ha hc hca h0
 cases hfi:(zco f c).find? (zpp R f c)with
 | none=>exact absurd hp (by simpa using List.find?_eq_none.1 hfi n hn)
 | some m =>
  have e:zmx R f c=m:=by unfold zmx;rw[hfi];rfl
  have hm:=List.mem_of_find?_eq_some hfi
  have hq:=List.find?_some hfi
  unfold zpp at hq
  rw[bJ,decide_eq_true_eq,decide_eq_true_eq]at hq
  obtain⟨b1,b2,_⟩:=zv3 hw hh hW hf hL hc hm
  rw[e]
  exact⟨rfl,hm,b1,b2,hq.1,hq.2⟩
theorem yez {f:Fld} {W H:Nat} (hw:f.w=(W:Int)) (hh:f.h=(H:Int)) (hW:0<W) (hf:zbl f=0) (hL:f.p.length=W*H) {a b c:Cel} {R far:List Int} {q:List Nod} (hR:Flood W f.p [zaw f a] R) (ha:inF f a=true) (hpa:zar f a≠1) (hc:inF f c=true) (h0:0≤R.getD (zaw f c) default)
 (hA:As W f.p (zaw f a) (fun n=>zb3 b (ze0 W n)) far q fun _ _=>True) (hcb:R.getD (zaw f c) default+zb3 b c≤R.getD (zaw f b) default) (hq:∀x∈q,R.getD (zaw f b) default<x.all) (hfc:far.getD (zaw f c) default=R.getD (zaw f c) default) {n:Cel} (hn:n∈zam c) :
 ((zdn f n).2=true∧0≤far.getD (zaw f n) default∧far.getD (zaw f n) default+kV (zar f c)=far.getD (zaw f c) default)↔(inF f n=true∧zpp R f c n=true):=by
 have hcons:=zso hw hh hW b
 rw[←hL]at hcons
 have haL:=(zbz hw hh hW hf ha).2
 obtain⟨ec,hcL⟩:=zbz hw hh hW hf hc
 have hkv:=zxi (zar f c)
 have epl:∀n,zar f n=f.p.getD (zaw f n) default:=fun _=>rfl
 unfold zpp zdn
 rw[bJ,decide_eq_true_eq,decide_eq_true_eq,hfc]
 constructor
 ·rintro⟨h1,h2,h3⟩
  have hin:inF f n=true:=by
   cases hi:inF f n with
   | true=>rfl
   | false=>rw[hi]at h1;simp at h1
  have:=hA.same hcons haL hR (zbz hw hh hW hf hin).2 h2
  rw[this]at h2 h3
  exact⟨hin,h2,h3⟩
 ·rintro⟨hin,h2,h3⟩
  obtain⟨en,hnL⟩:=zbz hw hh hW hf hin
  have hadj:Adj W (zaw f c) (zaw f n):=by rw[ec]at hn;exact znx hw hh hW (by omega) hn hin
  have hle:=hcons _ _ hnL hcL hadj.symm
  simp only at hle
  rw[←en,←ec]at hle
  have hk:=hA.known hcons haL hR hnL h2 (fun x hx=>by have:=hq x hx;rw[←en];omega)
  rw[hk]
  refine⟨?_,h2,h3⟩
  rw[if_pos hin,if_neg]
  rw[epl]
  rcases hR.why _ hnL h2 with ⟨w1,_⟩|⟨_,_,_,hr,_⟩
  ·rw[List.mem_singleton]at w1;rw[w1];exact hpa
  ·exact hr
theorem z2e {f:Fld} {R:List Int} {c:Cel} {p:Cel→Bool} (hp:∀n∈zam c,p n=(inF f n&&zpp R f c n)):(zam c).find? p=(zco f c).find? (zpp R f c):=by
 unfold zco
 rw[List.find?_filter]
 have key:∀l:List Cel,(∀n∈l,p n=(inF f n&&zpp R f c n))→l.find? p=l.find? (fun n=>inF f n&&zpp R f c n):=by
  intro l
  induction l with
  | nil=>intro _;rfl
  | cons x r ih=>intro h;rw[List.find?_cons,List.find?_cons,h x (by simp),ih fun n hn=>h n (by simp[hn])]
 have:=key _ hp
 simpa using this
def yf8 (f:Fld) (c:Cel):Nat:=if inF f c=true then zaw f c else 0
theorem zlp {f:Fld} {c:Cel} (h:inF f c=true):yf8 f c=zaw f c:=if_pos h
theorem z6v {f:Fld} (hf:zbl f=0) (c:Cel):yf8 f c<f.p.length:=by
 have hfo:=za4 hf
 unfold yf8
 split
 ·rename_i h
  have:=zbb hf h
  unfold zaw;omega
 ·have h1:0<f.w*f.h:=Int.mul_pos (by omega) (by omega)
  omega
theorem zoe (f:Fld) (b:Cel) (far:List Int) (q:List Nod) (c:Cel) (hf:zbl f=0) (hc:(zdn f c).2=true):Spec Tryz.prog 131 [.fel 7 [ymo f b far q] 0 0,zeu c] [] (I .i64 (yf8 f c)) []:=by
 have hin:inF f c=true:=by
  cases hi:inF f c with
  | true=>rfl
  | false=>unfold zdn at hc;rw[hi]at hc;simp at hc
 rw[zlp hin];exact zft f b far q c hf hin
theorem znw (c:Cel) (k:Nat) (hk:k<4):List.take 2 (List.drop (k*2) ([I .i64 c.x,I .i64 (c.y-1),I .i64 (c.x-1),I .i64 c.y,I .i64 (c.x+1),I .i64 c.y,I .i64 c.x,I .i64 (c.y+1)]:List AV)) = [I .i64 ((zam c).getD k default).x,I .i64 ((zam c).getD k default).y]:=by
 have:k=0∨k=1∨k=2∨k=3:=by omega
 rcases this with rfl|rfl|rfl|rfl<;>rfl
theorem z4a {f:Fld} {c:Cel} (hf:zbl f=0) (hc:inF f c=true) (k:Nat) (hk:k<4):(-1000≤((zam c).getD k default).x∧((zam c).getD k default).x≤1000) ∧ -1000≤((zam c).getD k default).y∧((zam c).getD k default).y≤1000:=by
 have h1:=inF_iff.1 hc
 have h2:=za4 hf
 have:k=0∨k=1∨k=2∨k=3:=by omega
 rcases this with rfl|rfl|rfl|rfl<;>simp only[zam,List.getD_cons_zero,List.getD_cons_succ]<;>omega
theorem yei {f:Fld} {b:Cel} {fr:List Int} {m:List Nod} (h:0<m.length∧(fr.getD (zaw f b) default<0∨(m.getD 0 default).all≤fr.getD (zaw f b) default)) (M:Nat):zn5 f b (M+1) fr m=if 0≤fr.getD (zaw f (m.getD 0 default).c) default then zn5 f b M fr (zhh Nod.all m)
 else zn5 f b M (fr.set (zaw f (m.getD 0 default).c) (m.getD 0 default).far) (zf5 f b (fr.set (zaw f (m.getD 0 default).c) (m.getD 0 default).far) (m.getD 0 default).far (zhh Nod.all m) (zam (m.getD 0 default).c)):=by
 rw[zn5,if_pos h]
theorem yeh {f:Fld} {b:Cel} {fr:List Int} {m:List Nod} (h:¬(0<m.length∧(fr.getD (zaw f b) default<0∨(m.getD 0 default).all≤fr.getD (zaw f b) default))) (M:Nat):zn5 f b M fr m=(fr,m):=by
 cases M with
 | zero=>rfl
 | succ M=>rw[zn5,if_neg h]
theorem ycy (f:Fld) (b:Cel) {W H:Nat} (hw:f.w=(W:Int)) (hh:f.h=(H:Int)) (hW:0<W) (hf:zbl f=0) (hL:f.p.length=W*H) (hb:inF f b=true) (a N:Nat) (far:List Int) (q:List Nod) (hA:As W f.p a (fun n=>zb3 b (ze0 W n)) far q (fun _ _=>True)) (hm:muS f far q≤N) (hN:N≤100000):Spec Tryz.prog 173 [.ptr 0 0 0] [.blk 206 [I .i64 f.w,I .i64 f.h,.c (.sl 1 (f.p.map zao)),I .i64 b.x,I .i64 b.y,.own 1,.own 2],.row 3 1 (far.map zao),.row 270 4 (q.map zhl)] (.tup []) [.blk 206 [I .i64 f.w,I .i64 f.h,.c (.sl 1 (f.p.map zao)),I .i64 b.x,I .i64 b.y,.own 1,.own 3],.row 3 1 ((zn5 f b N far q).1.map zao),.dead,.row 270 4 ((zn5 f b N far q).2.map zhl)]:=by
 have hbW:zaw f b<f.p.length:=(zbz hw hh hW hf hb).2
 have hbi:=inF_iff.1 hb
 have hfo:=za4 hf
 have hpl:=(zbb hf hb).2.2.2.2
 refine spB Tryz.func173 108 [] Tryz.results173 ?_
 try refine xy0 ?_
 refine zc0 (zft f b far q b hf hb) (WkL.refl _) rfl ?_
 try refine xy0 ?_
 refine zay (fun x:Nat × List Int × List Nod=>⟨[(2,I .i64 (zaw f b)),(0,.ptr 0 0 0)],[(0,.blk 206 [I .i64 f.w,I .i64 f.h,.c (.sl 1 (f.p.map zao)),I .i64 b.x,I .i64 b.y,.own 1,.own 3]),(1,.row 3 1 (x.2.1.map zao)),(2,.dead),(3,.row 270 4 (x.2.2.map zhl))],4⟩) (fun x:Nat × List Int × List Nod=>As W f.p a (fun n=>zb3 b (ze0 W n)) x.2.1 x.2.2 (fun _ _=>True)∧muS f x.2.1 x.2.2≤x.1∧x.1≤N∧zn5 f b x.1 x.2.1 x.2.2=zn5 f b N far q) (fun x:Nat × List Int × List Nod=>x.1) ((N,far,q)) (⟨hA,hm,Nat.le_refl _,rfl⟩) ((To.moveC 0 6 2 270 4 206 _ (q.map zhl) rfl rfl rfl).trans (To.mk [0,1,2,3] rfl rfl (by decide) ?_ ?_)) ?_
 ·exact xS1 QB1
 ·exact xS
 rintro⟨M,fr,m⟩ ⟨hA,hm,hMN,hu⟩
 simp only at hA hm hMN hu
 have hbF:zaw f b<fr.length:=by rw[hA.len];exact hbW
 rcases Nat.eq_zero_or_pos m.length with hz|hz
 ·obtain rfl:=List.length_eq_zero_iff.1 hz
  have e:zn5 f b M fr []=(fr,[]):=by
   cases M with
   | zero=>rfl
   | succ M=>rw[zn5,if_neg (fun h=>by simp at h)]
  simp only[awp,yhw]
  refine zdc _ rfl ?_
  intro O l R hl hd hR
  subst hl
  iterate 4(refine zby fun r hr=>?_;simp(etaStruct := .none)only[push_cast,zad,seval,hd];subst hr)
  refine zby fun r hr=>?_
  simp(etaStruct := .none)only[push_cast,zad,seval,hd]
  refine zc0 (zup []) (WkL.refl _) rfl ?_
  simp(etaStruct := .none)only[push_cast,zad,seval,hd,List.length_nil,Int.ofNat_zero,Int.lt_irrefl]
  subst hr
  iterate 28(refine zby fun r hr=>?_;simp(etaStruct := .none)only[push_cast,zad,seval,hd,zae _ _ _ hbF,zao,List.length_nil,Int.ofNat_zero,Int.lt_irrefl,id];(try refine⟨fun h=>absurd h (by decide),?_⟩);(try refine⟨fun h=>h.elim,?_⟩);subst hr)
  refine zv9 ?_
  subst hR
  refine zv8 (by kernel_rfl) ?_
  simp(etaStruct := .none) (maxSteps:=1000000)only[push_cast,zad,seval]
  refine zcd (fun h1=>?_) (fun h1=>?_)
  ·exact absurd h1 (by decide)
  ·rw[←hu,e]
   try refine xst ?_
   refine zb9 [0,1,2,3] rfl rfl (by decide) ⟨?_,?_,?_,?_,trivial⟩ trivial ?_<;>exact xS
 have hzd:(0<(m.length:Int))=True:=eq_true (by omega)
 have hmu5:m.length≤100000:=by unfold muS at hm;omega
 try refine xy5 hzd (gd hbF) (gd hz) zab zbj ?_
 refine zdc [some 14,some 15,some 16,some 17,some 18,some 19,some 20,some 21,some 22,some 23,some 24,some 25,some 26,some 27,some 28,some 29,some 30,some 31,some 32,some 33,some 34,some 35,some 36,some 37,some 38,some 39,some 40,some 41,some 42,some 43,some 44,some 45,some 46] rfl ?_
 intro Oq lq Rq hlq hdq hRq
 subst hlq
 iterate 4(refine zby fun rq hrq=>?_;(try(refine xy7 hdq hzd (gd hbF) (gd hz) zab zbj Qb0 ?_;try exact xtI));subst hrq)
 refine zby fun rq hrq=>?_
 try refine xy7 hdq hzd (gd hbF) (gd hz) zab zbj Qb0 ?_
 refine zc0 (zup m) (WkL.refl _) rfl ?_
 try refine xy7 hdq hzd (gd hbF) (gd hz) zab zbj Qb0 ?_
 subst hrq
 iterate 28(refine zby fun rq hrq=>?_;(try(refine xy7 hdq hzd (gd hbF) (gd hz) zab zbj Qb0 ?_;try exact xtI));subst hrq)
 refine zv9 ?_
 subst hRq
 clear hdq Oq
 refine zv8 (by kernel_rfl) ?_
 try refine xy5 hzd (gd hbF) (gd hz) zab zbj ?_
 refine cI (fun h1=>?_) fun h1=>?_
 ·have hg:goB f b fr m:=⟨hz,h1⟩
  obtain⟨p,e1,hp,j0,jb,_⟩:=hA.itm _ ((zg8 Nod.all m hz _).2 (.inl rfl))
  obtain⟨hin,hidx⟩:=zx1 (f:=f) hw hh hW (p:=p) (by omega)
  rw[←e1]at hin hidx
  have hpF:zaw f (m.getD 0 default).c<fr.length:=by rw[hidx,hA.len];exact hp
  have hci:=inF_iff.1 hin
  have hcl:=zhr zf3 1 zhz fr
  rw[hA.len]at hcl
  obtain⟨M',rfl⟩:∃M',M=M'+1:=⟨M-1,by unfold muS at hm;omega⟩
  have hrun:=yei hg M'
  try refine xy6 hzd (gd hbF) (gd hz) zab zbj (gd hpF) ?_
  refine caM [0,1,3] (yfd f b fr m hz (by omega)) ?_
  try refine xy6 hzd (gd hbF) (gd hz) zab zbj (gd hpF) ?_
  refine zdc [some 53,some 54,some 55,some 56,some 57,some 58,some 59,some 60,some 61,some 62,some 63] rfl ?_
  intro Oq lq Rq hlq hdq hRq
  subst hlq
  iterate 7(refine zby fun rq hrq=>?_;(try(refine xy8 hdq hzd (gd hbF) (gd hz) zab zbj (gd hpF) Qb0 ?_;try exact xtI));subst hrq)
  refine zby fun rq hrq=>?_
  try refine xy8 hdq hzd (gd hbF) (gd hz) zab zbj (gd hpF) Qb0 ?_
  refine zc0 (zft f b fr (zhh Nod.all m) (m.getD 0 default).c hf hin) (WkL.refl _) rfl ?_
  try refine xy8 hdq hzd (gd hbF) (gd hz) zab zbj (gd hpF) Qb0 ?_
  subst hrq
  iterate 3(refine zby fun rq hrq=>?_;(try(refine xy8 hdq hzd (gd hbF) (gd hz) zab zbj (gd hpF) Qb0 ?_;try exact xtI));subst hrq)
  refine zv9 ?_
  subst hRq
  clear hdq Oq
  refine zv8 (by kernel_rfl) ?_
  try refine xy6 hzd (gd hbF) (gd hz) zab zbj (gd hpF) ?_
  refine cI (fun h2=>?_) fun h2=>?_
  ·skip
   try refine xy6 hzd (gd hbF) (gd hz) zab zbj (gd hpF) ?_
   refine⟨(M',fr,zhh Nod.all m),⟨hA.skip hz e1 (by rw[←hidx];exact h2),by simp only;unfold muS at hm ⊢;rw[zin];omega,by simp only;omega,by rw[←hu,hrun,if_pos h2]⟩,by simp only;omega,To.mk [0,1,2,136] rfl rfl (by decide) ?_ ?_⟩
   ·(try(refine xy6 hzd (gd hbF) (gd hz) zab zbj (gd hpF) ?_;try exact xtI))
   ·(try(refine xy6 hzd (gd hbF) (gd hz) zab zbj (gd hpF) ?_;try exact xtI))
  ·obtain⟨p',e1',_,_,_,hA2,hself,cnt,top,hb3⟩:=z00 hw hh hW hf hL b hA hz (by omega)
   obtain rfl:p=p':=ze5 (e1.symm.trans e1')
   obtain⟨C,hC⟩:∃C,C=(m.getD 0 default).c:=⟨_,rfl⟩
   obtain⟨D,hD⟩:∃D,D=(m.getD 0 default).far:=⟨_,rfl⟩
   rw[←hidx,←hC,←hD]at hA2 hself cnt top hb3
   rw[←hC,←hD]at hrun
   rw[←hC]at hin hci e1 hidx hpF
   rw[←hD]at j0 jb
   obtain⟨Fq,hFS⟩:∃Fq,Fq=fr.set (zaw f C) D:=⟨_,rfl⟩
   rw[←hFS]at hA2 hself cnt top hb3 hrun
   have hFl:Fq.length=f.p.length:=by rw[hFS,List.length_set];exact hA.len
   try refine xy8 hzd (gd hbF) (gd hz) zab zbj (gd hpF) hC.symm hD.symm ?_
   refine zdc [some 64,some 65,some 66,some 67,some 68,some 69,some 70,some 71,some 72,some 73,some 74,none] rfl ?_
   intro Oq lq Rq hlq hdq hRq
   subst hlq
   iterate 7(refine zby fun rq hrq=>?_;(try(refine zdv hdq hzd (gd hbF) (gd hz) zab zbj (gd hpF) hC.symm hD.symm Qb0 ?_;try exact xtI));subst hrq)
   refine zby fun rq hrq=>?_
   try refine zdv hdq hzd (gd hbF) (gd hz) zab zbj (gd hpF) hC.symm hD.symm Qb0 ?_
   refine zc0 (zft f b fr (zhh Nod.all m) C hf hin) (WkL.refl _) rfl ?_
   try refine zdv hdq hzd (gd hbF) (gd hz) zab zbj (gd hpF) hC.symm hD.symm Qb0 ?_
   subst hrq
   iterate 4(refine zby fun rq hrq=>?_;(try(refine zdv hdq hzd (gd hbF) (gd hz) zab zbj (gd hpF) hC.symm hD.symm Qb0 ?_;try exact xtI));subst hrq)
   refine zv9 ?_
   subst hRq
   clear hdq Oq
   refine zv8 (by kernel_rfl) ?_
   try refine xy8 hzd (gd hbF) (gd hz) zab zbj (gd hpF) hC.symm hD.symm ?_
   refine caP (zy7 C (by omega) (by omega)) ?_
   try refine xy8 hzd (gd hbF) (gd hz) zab zbj (gd hpF) hC.symm hD.symm ?_
   refine zay (fun k:Nat=>⟨[(78,I .i64 k),(77,.agg [I .i64 C.x,I .i64 (C.y-1),I .i64 (C.x-1),I .i64 C.y,I .i64 (C.x+1),I .i64 C.y,I .i64 C.x,I .i64 (C.y+1)]),(3,.ptr 4 0 0),(2,I .i64 (zaw f b)),(0,.ptr 0 0 0)],[(0,.blk 206 [I .i64 f.w,I .i64 f.h,.c (.sl 1 (f.p.map zao)),I .i64 b.x,I .i64 b.y,.own 1,.own 3]),(1,.row 3 1 (Fq.map zao)),(2,.dead),(3,.row 270 4 ((zf5 f b Fq D (zhh Nod.all m) ((zam C).take k)).map zhl)),(4,.blk 270 [I .i64 C.x,I .i64 C.y,I .i64 D,I .i64 (m.getD 0 default).all])],5⟩) (fun k:Nat=>k≤4) (fun k:Nat=>4-k) (0) (Nat.zero_le _) (To.mk [0,1,2,136,137] rfl rfl (by decide) ?_ ?_) ?_
   ·simp(etaStruct := .none)only[push_cast,zad,seval,List.map_set,zao,List.take_zero,zf5,List.foldl_nil,hFS]
   ·exact xS1 Qs
   rintro k hk2
   try refine xy8 hzd (gd hbF) (gd hz) zab zbj (gd hpF) hC.symm hD.symm ?_
   refine cI (fun h3=>?_) fun h3=>?_
   ·have hlt:k<4:=by omega
    have hsc:=znw C k hlt
    have hsn:=z4a hf hin k hlt
    have hst:zf5 f b Fq D (zhh Nod.all m) ((zam C).take (k+1))=lk f b Fq D (zf5 f b Fq D (zhh Nod.all m) ((zam C).take k)) ((zam C).getD k default):=by rw[zak _ _ (show k<(zam C).length from hlt),zqs]
    have hgG:yf8 f ((zam C).getD k default)<Fq.length:=by rw[hFl];exact z6v hf _
    have hcb:0≤(zdn f ((zam C).getD k default)).1∧(zdn f ((zam C).getD k default)).1≤3:=by
     have:=zxi (zar f ((zam C).getD k default))
     unfold zdn
     split
     ·split<;>simp only<;>omega
     ·simp only;omega
    have hql:((zf5 f b Fq D (zhh Nod.all m) ((zam C).take k))).length≤100004:=by
     have h1:=zow f b Fq D ((zam C).take k) (zhh Nod.all m)
     rw[zin,List.length_take]at h1
     omega
    try refine zdv hzd (gd hbF) (gd hz) zab zbj (gd hpF) hC.symm hD.symm hsc (And.intro (gd hgG) zab) ?_
    refine zc0 (zw3 f b Fq (zf5 f b Fq D (zhh Nod.all m) ((zam C).take k)) ((zam C).getD k default) hf) (WkL.refl _) rfl ?_
    try refine zdv hzd (gd hbF) (gd hz) zab zbj (gd hpF) hC.symm hD.symm hsc (And.intro (gd hgG) zab) ?_
    refine zdc [some 87,some 88,some 89,some 90,some 91,some 92,some 93,some 94,some 95,some 96,some 97,some 98,some 99] rfl ?_
    intro Oq lq Rq hlq hdq hRq
    subst hlq
    iterate 8(refine zby fun rq hrq=>?_;(try(refine zdv hdq hzd (gd hbF) (gd hz) zab zbj (gd hpF) hC.symm hD.symm (And.intro hsc (And.intro (gd hgG) (And.intro zab Qb0))) ?_;try exact xtI));subst hrq)
    refine zby fun rq hrq=>?_
    try refine zdv hdq hzd (gd hbF) (gd hz) zab zbj (gd hpF) hC.symm hD.symm (And.intro hsc (And.intro (gd hgG) (And.intro zab Qb0))) ?_
    refine zhj (fun hcc=>zoe f b Fq (zf5 f b Fq D (zhh Nod.all m) ((zam C).take k)) ((zam C).getD k default) hf hcc) (WkL.refl _) rfl xG ?_
    try refine zdv hdq hzd (gd hbF) (gd hz) zab zbj (gd hpF) hC.symm hD.symm (And.intro hsc (And.intro (gd hgG) (And.intro zab Qb0))) ?_
    subst hrq
    iterate 4(refine zby fun rq hrq=>?_;(try(refine zdv hdq hzd (gd hbF) (gd hz) zab zbj (gd hpF) hC.symm hD.symm (And.intro hsc (And.intro (gd hgG) (And.intro zab Qb0))) ?_;try exact xtI));subst hrq)
    refine zv9 ?_
    subst hRq
    clear hdq Oq
    refine zv8 (by kernel_rfl) ?_
    try refine zdv hzd (gd hbF) (gd hz) zab zbj (gd hpF) hC.symm hD.symm hsc (And.intro (gd hgG) zab) ?_
    refine cI (fun h4=>?_) fun h4=>?_
    ·have hin2:inF f ((zam C).getD k default)=true:=by
      cases hi:inF f ((zam C).getD k default)with
      | true=>rfl
      | false=>have:=h4.1;unfold zdn at this;rw[hi]at this;simp at this
     have hlk:lk f b Fq D (zf5 f b Fq D (zhh Nod.all m) ((zam C).take k)) ((zam C).getD k default)=zew Nod.all (zf5 f b Fq D (zhh Nod.all m) ((zam C).take k)) ⟨((zam C).getD k default),D+(zdn f ((zam C).getD k default)).1,D+(zdn f ((zam C).getD k default)).1+zb3 b ((zam C).getD k default)⟩:=by unfold lk;rw[if_pos ⟨h4.1,by rw[←zlp hin2];exact h4.2⟩]
     rw[hlk]at hst
     try refine zdv hzd (gd hbF) (gd hz) zab zbj (gd hpF) hC.symm hD.symm hsc (And.intro (gd hgG) (And.intro zab hst)) ?_
     refine caM [0,1,3] (ye0 f b Fq (zf5 f b Fq D (zhh Nod.all m) ((zam C).take k)) ((zam C).getD k default) (D+(zdn f ((zam C).getD k default)).1) (by omega) hsn.1 hsn.2 (by omega) (by omega) (by omega)) ?_
     try refine zdv hzd (gd hbF) (gd hz) zab zbj (gd hpF) hC.symm hD.symm hsc (And.intro (gd hgG) (And.intro zab hst)) ?_
     refine⟨k+1,by omega,by omega,To.mk [0,1,2,58,4] rfl rfl (by decide) ?_ ?_⟩
     ·(try(refine zdv hzd (gd hbF) (gd hz) zab zbj (gd hpF) hC.symm hD.symm hsc (And.intro (gd hgG) (And.intro zab hst)) ?_;try exact xtI))
     ·(try(refine zdv hzd (gd hbF) (gd hz) zab zbj (gd hpF) hC.symm hD.symm hsc (And.intro (gd hgG) (And.intro zab hst)) ?_;try exact xtI))
    ·have hlk:lk f b Fq D (zf5 f b Fq D (zhh Nod.all m) ((zam C).take k)) ((zam C).getD k default)=(zf5 f b Fq D (zhh Nod.all m) ((zam C).take k)):=by
      unfold lk
      rw[if_neg]
      rintro⟨c1,c2⟩
      have hin2:inF f ((zam C).getD k default)=true:=by
       cases hi:inF f ((zam C).getD k default)with
       | true=>rfl
       | false=>unfold zdn at c1;rw[hi]at c1;simp at c1
      rw[←zlp hin2]at c2
      rcases h4 with h4|h4
      ·rw[c1]at h4;exact absurd h4 (by decide)
      ·omega
     rw[hlk]at hst
     try refine zdv hzd (gd hbF) (gd hz) zab zbj (gd hpF) hC.symm hD.symm hsc (And.intro (gd hgG) (And.intro zab hst)) ?_
     refine⟨k+1,by omega,by omega,To.mk [0,1,2,3,4] rfl rfl (by decide) ?_ ?_⟩
     ·(try(refine zdv hzd (gd hbF) (gd hz) zab zbj (gd hpF) hC.symm hD.symm hsc (And.intro (gd hgG) (And.intro zab hst)) ?_;try exact xtI))
     ·(try(refine zdv hzd (gd hbF) (gd hz) zab zbj (gd hpF) hC.symm hD.symm hsc (And.intro (gd hgG) (And.intro zab hst)) ?_;try exact xtI))
   ·obtain rfl:k=4:=by omega
    have ht4:(zam C).take 4=zam C:=rfl
    have hpc:zaw f C<f.p.length:=by omega
    have h4:=yc5 hw hh hW hf hL b hA2 hpc hself j0 top hb3 4 (Nat.le_refl _)
    rw[hidx,←e1,ht4,←hidx]at h4
    have h5:=zzx hw hh hW hL hpc h4
    have hll:=zow f b Fq D (zam C) (zhh Nod.all m)
    rw[zin,show (zam C).length=4 from rfl]at hll
    have hcl2:=zhr zf3 1 zhz Fq
    rw[hFl]at hcl2
    try refine xy9 hzd (gd hbF) (gd hz) zab zbj (gd hpF) hC.symm hD.symm ht4 ?_
    refine⟨(M',Fq,zf5 f b Fq D (zhh Nod.all m) (zam C)),⟨h5,by simp only;unfold muS at hm ⊢;omega,by simp only;omega,by rw[←hu,hrun,if_neg (by rw[hC];omega)]⟩,by simp only;omega,To.mk [0,1,2,3] rfl rfl (by decide) ?_ ?_⟩
    ·(try(refine xy9 hzd (gd hbF) (gd hz) zab zbj (gd hpF) hC.symm hD.symm ht4 ?_;try exact xtI))
    ·(try(refine xy9 hzd (gd hbF) (gd hz) zab zbj (gd hpF) hC.symm hD.symm ht4 ?_;try exact xtI))
 ·rw[←hu,yeh (fun h=>by have:=h.2;omega) M]
  try refine xy5 hzd (gd hbF) (gd hz) zab zbj ?_
  refine zb9 [0,1,2,3] rfl rfl (by decide) ⟨?_,?_,?_,?_,trivial⟩ trivial ?_<;>exact xS
theorem z5h (f:Fld) (b:Cel) (far:List Int) (x:Nod):Spec Tryz.prog 240 [.ptr 0 0 6,.ifc 270 (yhz x)] [.blk 206 [I .i64 f.w,I .i64 f.h,.c (.sl 1 (f.p.map zao)),I .i64 b.x,I .i64 b.y,.own 1,.c (.v (.slice none 0 0))],.row 3 1 (far.map zao)] (.tup []) [.blk 206 [I .i64 f.w,I .i64 f.h,.c (.sl 1 (f.p.map zao)),I .i64 b.x,I .i64 b.y,.own 1,.own 2],.row 3 1 (far.map zao),.row 270 4 ([x].map zhl)]:=by
 refine spB Tryz.func240 13 [] Tryz.results240 ?_
 try refine xst ?_
 (try(refine⟨by kernel_rfl,?_⟩))
 try refine xst ?_
 refine zb9 [0,1,30] rfl rfl (by decide) ⟨?_,?_,?_,trivial⟩ trivial ?_<;>simp(etaStruct := .none)only[push_cast,zad,seval,zhl]
theorem z5m (f:Fld) (b:Cel) (far:List Int) (x:Nod):Spec Tryz.prog 197 [.ifc 268 (.ptr 0 0 6),.ifc 270 (yhz x)] [.blk 206 [I .i64 f.w,I .i64 f.h,.c (.sl 1 (f.p.map zao)),I .i64 b.x,I .i64 b.y,.own 1,.c (.v (.slice none 0 0))],.row 3 1 (far.map zao)] (.tup []) [.blk 206 [I .i64 f.w,I .i64 f.h,.c (.sl 1 (f.p.map zao)),I .i64 b.x,I .i64 b.y,.own 1,.own 2],.row 3 1 (far.map zao),.row 270 4 ((zew Nod.all [] x).map zhl)]:=by
 refine spB Tryz.func197 12 [] Tryz.results197 ?_
 try refine xst ?_
 refine caM [0,1] (z5h f b far x) ?_
 try refine xst ?_
 refine zc0 (zup [x]) (WkL.refl _) rfl ?_
 try refine xst ?_
 refine caM [0,1,2] (yir f b far [x] 0 (by simp) (by simp)) ?_
 try refine xst ?_
 refine zb9 [0,1,2] rfl rfl (by decide) ⟨?_,?_,?_,trivial⟩ trivial ?_<;>simp(etaStruct := .none)only[push_cast,zad,seval,zew]
abbrev srB (f:Fld) (b:Cel) (x y:AV):Chunk := .blk 206 [I .i64 f.w,I .i64 f.h,.c (.sl 1 (f.p.map zao)),I .i64 b.x,I .i64 b.y,x,y]
theorem zy8 (f:Fld) (b:Cel) (far:List Int) (c:Cel) (d:Int) (hx : -1000≤c.x∧c.x≤1000) (hy : -1000≤c.y∧c.y≤1000) (hbx:0≤b.x∧b.x≤40) (hby:0≤b.y∧b.y≤40) (hd:0≤d∧d≤1000000):Spec Tryz.prog 172 [.ptr 0 0 0,zeu c,I .i64 d] [.blk 206 [I .i64 f.w,I .i64 f.h,.c (.sl 1 (f.p.map zao)),I .i64 b.x,I .i64 b.y,.own 1,.c (.v (.slice none 0 0))],.row 3 1 (far.map zao)] (.tup []) [.blk 206 [I .i64 f.w,I .i64 f.h,.c (.sl 1 (f.p.map zao)),I .i64 b.x,I .i64 b.y,.own 1,.own 2],.row 3 1 (far.map zao),.row 270 4 ((zew Nod.all [] ⟨c,d,d+zb3 b c⟩).map zhl)]:=by
 have e1:IntKind.i64.wrap (d+IntKind.i64.wrap (2*(((b.x-c.x).natAbs+(b.y-c.y).natAbs:Nat):Int)))=d+zb3 b c:=by unfold zb3;rw[zaj (2*_) (by omega) (by omega),zaj _ (by omega) (by omega)]
 refine spB Tryz.func172 32 [] Tryz.results172 ?_
 try refine xz1 e1 ?_
 refine caP (zsi c b (by simp[zeo];omega) (by simp[zeo];omega)) ?_
 try refine xz1 e1 ?_
 (try(refine⟨by kernel_rfl,?_⟩))
 try refine xz1 e1 ?_
 refine zcn [0,1] (z5m f b far ⟨c,d,d+zb3 b c⟩) (WkL.refl _) rfl (by decide) (by simp[za6,zdf,zjc]) ?_
 try refine xz1 e1 ?_
 (try(refine⟨by kernel_rfl,?_⟩))
 try refine xz1 e1 ?_
 refine zb9 [0,1,103] rfl rfl (by decide) ⟨?_,?_,?_,trivial⟩ trivial ?_<;>exact xS
theorem zq9 {f:Fld} {c:Cel} (hf:zbl f=0):atV f c=if inF f c then (zar f c,0)else (0,7):=by unfold atV;rw[if_neg (by simp[hf])]
theorem zws (f:Fld) (a b:Cel) (hl:f.p.length≤9223372036854775807) (hE:zbl f≠0∨¬(inF f a=true∧inF f b=true)∨zar f a=1∨zar f b=1) (R:List Int):Spec Tryz.prog 128 [ziq f,zeu a,zeu b] [] (.tup [.c (.v (.pointer none)),I .i64 (zek R f a b)]) []:=by
 have key:(atV f a).2≠0∧zek R f a b=(atV f a).2∨(atV f a).2=0∧(atV f b).2≠0∧zek R f a b=(atV f b).2∨(atV f a).2=0∧(atV f b).2=0∧zek R f a b=9∧((atV f a).1=1∨(atV f b).1=1):=by
  by_cases hf:zbl f=0
  ·rw[zq9 hf,zq9 hf]
   unfold zek
   cases ha:inF f a with
   | false=>exact .inl ⟨by simp[ha],by simp[ha,hf]⟩
   | true =>
    cases hb:inF f b with
    | false=>exact .inr (.inl ⟨by simp[ha],by simp[hb],by simp[hb,hf]⟩)
    | true =>
     rcases hE with h|h|h
     ·exact absurd hf h
     ·exact absurd ⟨ha,hb⟩ h
     ·exact .inr (.inr ⟨by simp[ha],by simp[hb],by simp[ha,hb,hf,h],by simpa[ha,hb]using h⟩)
  ·have e:∀c,atV f c=(0,zbl f):=fun c=>by unfold atV;rw[if_pos hf]
   rw[e]
   unfold zek
   rw[if_pos hf]
   exact .inl ⟨hf,rfl⟩
 refine spB Tryz.func128 61 [.tmp 6,.tmp 7] Tryz.results128 ?_
 try refine xst ?_
 refine caP (z2n f a hl) ?_
 try refine xst ?_
 refine cI (fun h1=>?_) fun h1=>?_
 ·have e:zek R f a b=(atV f a).2:=by
   rcases key with k|k|k
   ·exact k.2
   ·exact absurd k.1 h1
   ·exact absurd k.1 h1
  try refine xst ?_
  exact zcw e rfl
 ·try refine xst ?_
  refine caP (z2n f b hl) ?_
  try refine xst ?_
  refine cI (fun h2=>?_) fun h2=>?_
  ·have e:zek R f a b=(atV f b).2:=by
    rcases key with k|k|k
    ·exact absurd h1 k.1
    ·exact k.2.2
    ·exact absurd k.2.1 h2
   try refine xst ?_
   exact zcw e rfl
  ·try refine xst ?_
   refine cI (fun h3=>?_) fun h3=>?_
   ·have e:zek R f a b=9:=by
     rcases key with k|k|k
     ·exact absurd h1 k.1
     ·exact absurd h2 k.2.1
     ·exact k.2.2.1
    try refine xst ?_
    exact zcw e rfl
   ·exfalso
    rcases key with k|k|k
    ·exact absurd h1 k.1
    ·exact absurd h2 k.2.1
    ·have:=k.2.2.2;omega
def zdq (f:Fld) (a b:Cel):List Int × List Nod:=zn5 f b 8001 (List.replicate f.p.length (-1)) (zew Nod.all [] ⟨a,0,0+zb3 b a⟩)
theorem ym1 (f:Fld) (x:Nod) (h:f.p.length≤1600):muS f (List.replicate f.p.length (-1)) (zew Nod.all [] x)≤8001:=by
 unfold muS;rw[zo2];simp only[List.length_nil];omega
theorem As0 {f:Fld} {W H:Nat} (hw:f.w=(W:Int)) (hh:f.h=(H:Int)) (hW:0<W) (hf:zbl f=0) (b:Cel) {a:Cel} (ha:inF f a=true):As W f.p (zaw f a) (fun n=>zb3 b (ze0 W n)) (List.replicate f.p.length (-1)) (zew Nod.all [] ⟨a,0,0+zb3 b a⟩) fun _ _=>True:=by
 obtain⟨e,hlt⟩:=zbz hw hh hW hf ha
 have:=As.start (W:=W) (pl:=f.p) (a:=zaw f a) (hh:=fun n=>zb3 b (ze0 W n)) hlt
 rw[←e]at this
 exact this
theorem ygr {f:Fld} (hf:zbl f=0):∃W H:Nat,f.w=(W:Int)∧f.h=(H:Int)∧0<W∧f.p.length=W*H:=by
 obtain⟨⟨w1,w2⟩,⟨w3,w4⟩,wl,wp⟩:=za4 hf
 obtain⟨W,hW⟩:∃W:Nat,f.w=(W:Int):=Int.eq_ofNat_of_zero_le (by omega)
 obtain⟨H,hH⟩:∃H:Nat,f.h=(H:Int):=Int.eq_ofNat_of_zero_le (by omega)
 exact⟨W,H,hW,hH,by omega,by rw[hW,hH]at wl;exact_mod_cast wl⟩
structure Srch (f : Fld) (a b : Cel) (R : List Int) (W H : Nat) : Prop where
 w:f.w=(W:Int)
 h:f.h=(H:Int)
 w0:0<W
 l:f.p.length=W*H
 r:Flood W f.p [zaw f a] R
 ass:As W f.p (zaw f a) (fun n=>zb3 b (ze0 W n)) (zdq f a b).1 (zdq f a b).2 fun _ _=>True
 no:¬goB f b (zdq f a b).1 (zdq f a b).2
theorem yeb {f:Fld} {a b:Cel} {R:List Int} (hf:zbl f=0) (ha:inF f a=true) (hpa:zar f a≠1) (hR:zbu f [a] R):∃W H,Srch f a b R W H:=by
 obtain⟨W,H,hw,hh,hW,hL⟩:=ygr hf
 have hA:=yih hw hh hW hf hL b 8001 _ _ (As0 hw hh hW hf b ha) (ym1 f _ (zbb hf ha).2.2.2.2)
 have hlt:=(zbz hw hh hW hf ha).2
 obtain⟨F,hF⟩:=ybp (W:=W) (pl:=f.p) (s := [zaw f a]) hW (zbb hf ha).2.2.2.2 (by intro p hp;rw[List.mem_singleton]at hp;rw[hp];exact hlt)
 have e:zfl f [a]=0:=by
  unfold zfl z81 z81
  rw[if_neg (by simp[hf]),if_neg (by simp),if_pos ha,if_neg hpa]
 have:=hR.1 e F (by rw[hw,Int.toNat_natCast];exact hF)
 subst this
 exact⟨W,H,hw,hh,hW,hL,hF,hA.1,hA.2⟩
theorem Srch.end {f:Fld} {a b:Cel} {R:List Int} {W H:Nat} (s:Srch f a b R W H) (hf:zbl f=0) (ha:inF f a=true) (hb:inF f b=true):((zdq f a b).1.getD (zaw f b) default<0↔R.getD (zaw f b) default<0)∧(0≤R.getD (zaw f b) default→(zdq f a b).1.getD (zaw f b) default=R.getD (zaw f b) default∧∀x∈(zdq f a b).2,R.getD (zaw f b) default<x.all):=by
 have hcons:=zso s.w s.h s.w0 b
 rw[←s.l]at hcons
 have haL:=(zbz s.w s.h s.w0 hf ha).2
 have hbL:=(zbz s.w s.h s.w0 hf hb).2
 have h1:∀h:0≤(zdq f a b).1.getD (zaw f b) default,(zdq f a b).1.getD (zaw f b) default=R.getD (zaw f b) default:=fun h=>s.ass.same hcons haL s.r hbL h
 have h2:(zdq f a b).1.getD (zaw f b) default<0→R.getD (zaw f b) default<0:=fun h=>by
  rcases Int.lt_or_le (R.getD (zaw f b) default) 0 with h3|h3
  ·exact h3
  ·have hq:(zdq f a b).2 = []:=by
    have:=s.no
    unfold goB at this
    cases hq:(zdq f a b).2 with
    | nil=>rfl
    | cons x r=>exact absurd ⟨by rw[hq];simp,.inl h⟩ this
   have:=s.ass.known hcons haL s.r hbL h3 (by rw[hq];intro x hx;simp at hx)
   omega
 refine⟨⟨h2,fun h=>?_⟩,fun h=>?_⟩
 ·rcases Int.lt_or_le ((zdq f a b).1.getD (zaw f b) default) 0 with h3|h3
  ·exact h3
  ·have:=h1 h3;omega
 ·have h3:0≤(zdq f a b).1.getD (zaw f b) default:=by
   rcases Int.lt_or_le ((zdq f a b).1.getD (zaw f b) default) 0 with h3|h3
   ·have:=h2 h3;omega
   ·exact h3
  have h4:=h1 h3
  refine⟨h4,fun x hx=>?_⟩
  obtain⟨k,hk,rfl⟩:=mem_getD.1 hx
  have hle:=zsp _ s.ass.heap k hk
  have:=s.no
  unfold goB at this
  rw[h4]at this
  rcases Int.lt_or_le (R.getD (zaw f b) default) ((zdq f a b).2.getD k default).all with h5|h5
  ·exact h5
  ·exact absurd ⟨by omega,.inr (by omega)⟩ this
theorem zt5 (f:Fld) (a b:Cel) (hl:f.p.length≤9223372036854775807) {R:List Int} (hf:zbl f=0) (ha:inF f a=true) (hb:inF f b=true) (hpa:zar f a≠1) (hpb:zar f b≠1) (hR:zbu f [a] R) (h0:R.getD (zaw f b) default<0):Spec Tryz.prog 128 [ziq f,zeu a,zeu b] [] (.tup [.c (.v (.pointer none)),I .i64 6]) []:=by
 obtain⟨W,H,s⟩:=yeb (b:=b) hf ha hpa hR
 have hend:=s.end hf ha hb
 obtain⟨hw,hh,hW,hL,hFl,hAe,_⟩:=s
 have hA0:=As0 hw hh hW hf b ha
 have hmu0:=ym1 f ⟨a,0,0+zb3 b a⟩ (zbb hf ha).2.2.2.2
 have hai:=inF_iff.1 ha
 have hbi:=inF_iff.1 hb
 have hfo:=za4 hf
 have hpx:=zbb hf ha
 have hrunS:zn5 f b 8001 (List.replicate f.p.length (-1)) (zew Nod.all [] ⟨a,0,0+zb3 b a⟩)=zdq f a b:=rfl
 have hbF:zaw f b<(zdq f a b).1.length:=by rw[hAe.len];exact(zbz hw hh hW hf hb).2
 refine spB Tryz.func128 61 [.tmp 6,.tmp 7] Tryz.results128 ?_
 try refine xz4 hrunS (gd hbF) zab Qs ?_
 refine caP (z2n f a hl) ?_
 rw[zq9 hf,if_pos ha]
 try refine xz4 hrunS (gd hbF) zab Qs ?_
 refine cI (fun h1=>?_) fun h1=>?_
 ·exact absurd h1 (by decide)
 ·try refine xz4 hrunS (gd hbF) zab Qs ?_
  refine caP (z2n f b hl) ?_
  rw[zq9 hf,if_pos hb]
  try refine xz4 hrunS (gd hbF) zab Qs ?_
  refine cI (fun h2=>?_) fun h2=>?_
  ·exact absurd h2 (by decide)
  ·try refine xz4 hrunS (gd hbF) zab Qs ?_
   refine cI (fun h3=>?_) fun h3=>?_
   ·rcases h3 with h3|h3
    ·exact absurd h3 hpa
    ·exact absurd h3 hpb
   ·try refine xz4 hrunS (gd hbF) zab Qs ?_
    refine zcn [11] (zy3 f.p.length (by omega) (by omega)) (WkL.refl _) rfl (by decide) (by simp[za6,zdf,zjc]) ?_
    try refine xz4 hrunS (gd hbF) zab Qs ?_
    (try(refine⟨by kernel_rfl,?_⟩))
    try refine xz4 hrunS (gd hbF) zab Qs ?_
    refine caM [35,27] (zy8 f b (List.replicate f.p.length (-1)) a 0 (by omega) (by omega) (by omega) (by omega) (by omega)) ?_
    try refine xz4 hrunS (gd hbF) zab Qs ?_
    refine caM [35,27,43] (ycy f b hw hh hW hf hL hb (zaw f a) 8001 (List.replicate f.p.length (-1)) (zew Nod.all [] ⟨a,0,0+zb3 b a⟩) hA0 hmu0 (by decide)) ?_
    try refine xz4 hrunS (gd hbF) zab Qs ?_
    refine zc0 (zft f b (zdq f a b).1 (zdq f a b).2 b hf hb) (WkL.refl _) rfl ?_
    try refine xz4 hrunS (gd hbF) zab Qs ?_
    (try(refine⟨by kernel_rfl,?_⟩))
    try refine xz4 hrunS (gd hbF) zab Qs ?_
    refine cI (fun h4=>?_) fun h4=>?_
    ·try refine xz4 hrunS (gd hbF) zab Qs ?_
     exact xrz rfl
    ·exact absurd (hend.1.2 h0) (by omega)
theorem zwr (f:Fld) (a b:Cel) (hl:f.p.length≤9223372036854775807) {R:List Int} (hf:zbl f=0) (ha:inF f a=true) (hb:inF f b=true) (hpa:zar f a≠1) (hpb:zar f b≠1) (hR:zbu f [a] R) (h0:0≤R.getD (zaw f b) default):Spec Tryz.prog 128 [ziq f,zeu a,zeu b] [] (.tup [.ptr 0 0 0,I .i64 0]) [srB f b (.own 1) (.own 2),.row 3 1 ((zdq f a b).1.map zao),.row 270 4 ((zdq f a b).2.map zhl)]:=by
 obtain⟨W,H,s⟩:=yeb (b:=b) hf ha hpa hR
 have hend:=s.end hf ha hb
 obtain⟨hw,hh,hW,hL,hFl,hAe,_⟩:=s
 have hA0:=As0 hw hh hW hf b ha
 have hmu0:=ym1 f ⟨a,0,0+zb3 b a⟩ (zbb hf ha).2.2.2.2
 have hai:=inF_iff.1 ha
 have hbi:=inF_iff.1 hb
 have hfo:=za4 hf
 have hpx:=zbb hf ha
 have hrunS:zn5 f b 8001 (List.replicate f.p.length (-1)) (zew Nod.all [] ⟨a,0,0+zb3 b a⟩)=zdq f a b:=rfl
 have hbF:zaw f b<(zdq f a b).1.length:=by rw[hAe.len];exact(zbz hw hh hW hf hb).2
 refine spB Tryz.func128 61 [.tmp 6,.tmp 7] Tryz.results128 ?_
 try refine xz4 hrunS (gd hbF) zab Qs ?_
 refine caP (z2n f a hl) ?_
 rw[zq9 hf,if_pos ha]
 try refine xz4 hrunS (gd hbF) zab Qs ?_
 refine cI (fun h1=>?_) fun h1=>?_
 ·exact absurd h1 (by decide)
 ·try refine xz4 hrunS (gd hbF) zab Qs ?_
  refine caP (z2n f b hl) ?_
  rw[zq9 hf,if_pos hb]
  try refine xz4 hrunS (gd hbF) zab Qs ?_
  refine cI (fun h2=>?_) fun h2=>?_
  ·exact absurd h2 (by decide)
  ·try refine xz4 hrunS (gd hbF) zab Qs ?_
   refine cI (fun h3=>?_) fun h3=>?_
   ·rcases h3 with h3|h3
    ·exact absurd h3 hpa
    ·exact absurd h3 hpb
   ·try refine xz4 hrunS (gd hbF) zab Qs ?_
    refine zcn [11] (zy3 f.p.length (by omega) (by omega)) (WkL.refl _) rfl (by decide) (by simp[za6,zdf,zjc]) ?_
    try refine xz4 hrunS (gd hbF) zab Qs ?_
    (try(refine⟨by kernel_rfl,?_⟩))
    try refine xz4 hrunS (gd hbF) zab Qs ?_
    refine caM [35,27] (zy8 f b (List.replicate f.p.length (-1)) a 0 (by omega) (by omega) (by omega) (by omega) (by omega)) ?_
    try refine xz4 hrunS (gd hbF) zab Qs ?_
    refine caM [35,27,43] (ycy f b hw hh hW hf hL hb (zaw f a) 8001 (List.replicate f.p.length (-1)) (zew Nod.all [] ⟨a,0,0+zb3 b a⟩) hA0 hmu0 (by decide)) ?_
    try refine xz4 hrunS (gd hbF) zab Qs ?_
    refine zc0 (zft f b (zdq f a b).1 (zdq f a b).2 b hf hb) (WkL.refl _) rfl ?_
    try refine xz4 hrunS (gd hbF) zab Qs ?_
    (try(refine⟨by kernel_rfl,?_⟩))
    try refine xz4 hrunS (gd hbF) zab Qs ?_
    refine cI (fun h4=>?_) fun h4=>?_
    ·exact absurd (hend.1.1 h4) (by omega)
    ·try refine xz4 hrunS (gd hbF) zab Qs ?_
     refine zb9 [35,27,44] rfl rfl (by decide) ⟨?_,?_,?_,trivial⟩ trivial ?_<;>exact xS
def z7x (l:List Sea) (T:List Nat):List Sea:=(List.range l.length).map fun i=>⟨(l.getD i default).waits.drop (T.getD i default),(yi6 (l.getD i default)).late,(l.getD i default).gone⟩
theorem z7w (l:List Sea) (T:List Nat):(z7x l T).length=l.length:=by simp[z7x]
theorem ybw (l:List Sea) (T:List Nat) (i:Nat) (h:i<l.length):(z7x l T).getD i default=⟨(l.getD i default).waits.drop (T.getD i default),(yi6 (l.getD i default)).late,(l.getD i default).gone⟩:=by
 rw[zaq _ _ (by rw[z7w];exact h)]
 simp[z7x]
theorem zkx {α : Type} [Inhabited α] {l m:List α} (h:l.length=m.length) (h2:∀i,i<l.length→l.getD i default=m.getD i default):l=m:=by
 refine List.ext_getElem h fun i i1 i2=>?_
 have:=h2 i i1
 rwa [zaq _ _ i1,zaq _ _ i2]at this
theorem zkc {α : Type} [Inhabited α] (l:List α) (i j:Nat) (x : α) (h:i<l.length):(l.set i x).getD j default=if i=j then x else l.getD j default:=by
 by_cases e:i=j
 ·subst e;rw[if_pos rfl,zaq _ _ (by simpa using h)];simp
 ·rw[if_neg e,List.getD_eq_getElem?_getD,List.getElem?_set_ne e,List.getD_eq_getElem?_getD]
def TkQ (most:Int) (l:List Sea) (k i:Nat) (o:List Ord) (U:List Nat):Prop :=
 U.length=l.length∧o.length≤100∧(∀j,j<l.length→U.getD j default≤(l.getD j default).waits.length) ∧
 ((o.length:Int)<most→∀j,j<l.length→U.getD j default=if j<i then min (k+1) (l.getD j default).waits.length else min k (l.getD j default).waits.length)
theorem TkQ.t {most:Int} {l:List Sea} {k i:Nat} {o:List Ord} {U:List Nat} (h:TkQ most l k i o U) (hi:i<l.length) (hk:k<(l.getD i default).waits.length) (hm:(o.length:Int)<most) (hm2:most≤100) (x:Ord) :
 U.getD i default=k∧TkQ most l k (i+1) (o ++ [x]) (U.set i (k+1)):=by
 obtain⟨h1,h2,h3,h4⟩:=h
 have e:=h4 hm i hi
 rw[if_neg (by omega),Nat.min_eq_left (by omega)]at e
 refine⟨e,by simp[h1],by simp;omega,fun j hj=>?_,fun hm' j hj=>?_⟩
 ·rw[zkc _ _ _ _ (by omega)]
  split
  ·rename_i e';subst e';omega
  ·exact h3 j hj
 ·have:=h4 hm j hj
  rw[zkc _ _ _ _ (by omega)]
  by_cases e':i=j
  ·subst e';rw[if_pos rfl,if_pos (by omega)];omega
  ·rw[if_neg e',this]
   by_cases e2:j<i
   ·rw[if_pos e2,if_pos (by omega)]
   ·rw[if_neg e2,if_neg (by omega)]
theorem TkQ.f {most:Int} {l:List Sea} {k i:Nat} {o:List Ord} {U:List Nat} (h:TkQ most l k i o U) (hi:i<l.length) (hc:¬(k<(l.getD i default).waits.length∧(o.length:Int)<most)):TkQ most l k (i+1) o U∧¬(0<((z7x l U).getD i default).waits.length∧(o.length:Int)<most):=by
 obtain⟨h1,h2,h3,h4⟩:=h
 refine⟨⟨h1,h2,h3,fun hm j hj=>?_⟩,?_⟩
 ·rw[h4 hm j hj]
  by_cases e:j=i
  ·subst e;rw[if_neg (by omega),if_pos (by omega)];omega
  ·by_cases e2:j<i
   ·rw[if_pos e2,if_pos (by omega)]
   ·rw[if_neg e2,if_neg (by omega)]
 ·rw[ybw _ _ _ hi]
  simp only[List.length_drop]
  rintro⟨h5,h6⟩
  have:=h4 h6 i hi
  rw[if_neg (by omega)]at this
  omega
theorem TkQ.next {most:Int} {l:List Sea} {k:Nat} {o:List Ord} {U:List Nat} (h:TkQ most l k l.length o U):TkQ most l (k+1) 0 o U:=by
 obtain⟨h1,h2,h3,h4⟩:=h
 refine⟨h1,h2,h3,fun hm j hj=>?_⟩
 rw[h4 hm j hj,if_pos hj,if_neg (by omega)]
theorem TkQ.zero (most:Int) (l:List Sea):TkQ most l 0 0 [] (List.replicate l.length 0):=by
 refine⟨by simp,by simp,fun j hj=>?_,fun _ j hj=>?_⟩<;>rw[zaq _ _ (by simpa using hj)]<;>simp
def zwv {α : Type} [Inhabited α] (k:Nat) (l:List α):List α := (List.range l.length).map fun i=>if i<k∨l.length-k≤i then l.getD (l.length-1-i) default else l.getD i default
theorem ze2 {α : Type} [Inhabited α] (k:Nat) (l:List α):(zwv k l).length=l.length:=by simp[zwv]
theorem zig {α : Type} [Inhabited α] (k:Nat) (l:List α) (i:Nat) (hi:i<l.length):(zwv k l).getD i default=if i<k∨l.length-k≤i then l.getD (l.length-1-i) default else l.getD i default:=by
 rw[zaq _ _ (by rw[ze2];exact hi)];simp[zwv]
theorem z4u {α : Type} [Inhabited α] (l:List α):zwv 0 l=l:=by
 refine zkx (ze2 0 l) fun i hi=>?_
 rw[ze2]at hi
 rw[zig 0 l i hi,if_neg (by omega)]
theorem z4v {α : Type} [Inhabited α] (l:List α) (k:Nat) (h:2*k+1<l.length):zwv (k+1) l=((zwv k l).set k ((zwv k l).getD (l.length-1-k) default)).set (l.length-1-k) ((zwv k l).getD k default):=by
 have hrl:=ze2 k l
 refine zkx (by simp[ze2]) fun i hi=>?_
 rw[ze2]at hi
 rw[zkc _ _ _ _ (by rw[List.length_set];omega),zkc _ _ _ _ (by omega),zig _ l i hi,zig k l k (by omega),zig k l (l.length-1-k) (by omega),zig k l i hi]
 rw[if_neg (show ¬(l.length-1-k<k∨l.length-k≤l.length-1-k)by omega),if_neg (show ¬(k<k∨l.length-k≤k)by omega)]
 by_cases e1:l.length-1-k=i
 ·rw[if_pos e1,if_pos (by omega)];congr 1;omega
 ·rw[if_neg e1]
  by_cases e2:k=i
  ·rw[if_pos e2,if_pos (by omega)];congr 1;omega
  ·rw[if_neg e2]
   by_cases e3:i<k∨l.length-k≤i
   ·rw[if_pos e3,if_pos (by omega)]
   ·rw[if_neg e3,if_neg (by omega)]
theorem z90 {α : Type} [Inhabited α] (l:List α) (k:Nat) (h:l.length≤2*k+1):zwv k l=l.reverse:=by
 refine zkx (by rw[ze2,List.length_reverse]) fun i hi=>?_
 rw[ze2]at hi
 rw[zig k l i hi,zaq _ _ (show i<l.reverse.length by simpa using hi),List.getElem_reverse,←zaq l _ (show l.length-1-i<l.length by omega)]
 by_cases e3:i<k∨l.length-k≤i
 ·rw[if_pos e3]
 ·rw[if_neg e3];congr 1;omega
theorem z78 (l:List Cel) (hl:l.length≤1000000):Spec Tryz.prog 108 [.own 0] [.row 72 2 (l.map zbk)] (.tup []) [.row 72 2 (l.reverse.map zbk)]:=by
 refine spB Tryz.func108 28 [] Tryz.results108 ?_
 try refine xst ?_
 refine zay (fun k:Nat=>⟨[(3,I .i64 ((l.length:Int)-1-k)),(2,I .i64 k),(0,.own 0)],[(0,.row 72 2 ((zwv k l).map zbk))],1⟩) (fun k:Nat=>2*k≤l.length) (fun k:Nat=>l.length-k) (0) (Nat.zero_le _) (To.mk [0] rfl rfl (by decide) ?_ ?_) ?_
 ·simp(etaStruct := .none)only[push_cast,zad,seval,z4u]
 ·(iterate 2((try simp(etaStruct := .none)only[push_cast,zad,seval,Int.ofNat_zero,Int.sub_zero]);(try(refine xsu ?_;try exact xtI))))
 rintro k hk
 have hrl:=ze2 k l
 try refine xst ?_
 refine cI (fun h1=>?_) fun h1=>?_
 ·obtain⟨j,hj⟩:∃j:Nat,(l.length:Int)-1-k=(j:Int):=Int.eq_ofNat_of_zero_le (by omega)
  have hjn:j=l.length-1-k:=by omega
  have hs:=z4v l k (by omega)
  rw[←hjn]at hs
  have hk1:k<(zwv k l).length:=by omega
  have hj1:j<(zwv k l).length:=by omega
  have hj2:j<((zwv k l).set k ((zwv k l).getD j default)).length:=by rw[List.length_set];omega
  try refine xz5 hj (gd hk1) (gd hj1) zag Qc0 ?_
  (try(refine⟨by kernel_rfl,?_⟩))
  try refine xz5 hj (gd hk1) (gd hj1) zag Qc0 ?_
  refine⟨k+1,by omega,by omega,To.mk [0] rfl rfl (by decide) ?_ ?_⟩
  ·(try(refine xz3 hs zag Qr ?_;try exact xtI))
  ·have e1:(j:Int)-1=(l.length:Int)-1-((k:Int)+1):=by omega
   (try(refine xz1 e1 ?_;try exact xtI))
 ·have hr:=z90 l k (by omega)
  try refine xst ?_
  refine zb9 [0] rfl rfl (by decide) ⟨?_,trivial⟩ trivial ?_<;>simp(etaStruct := .none)only[push_cast,zad,seval,hr]
def zml (R:List Int) (f:Fld) (a b:Cel):Int:=if zek R f a b=0 then R.getD (zaw f b) default else 0
theorem zp2 (R:List Int) (f:Fld) (a b:Cel):(zek R f a b≠0∧(zbl f≠0∨¬(inF f a=true∧inF f b=true)∨zar f a=1∨zar f b=1))∨(zbl f=0∧inF f a=true∧inF f b=true∧zar f a≠1∧zar f b≠1∧((zek R f a b=6∧R.getD (zaw f b) default<0)∨(zek R f a b=0∧0≤R.getD (zaw f b) default))):=by
 unfold zek
 by_cases h1:zbl f=0
 ·rw[if_neg (by simp[h1])]
  by_cases h2:inF f a=true∧inF f b=true
  ·rw[if_neg (fun h=>h h2)]
   by_cases h3:zar f a=1∨zar f b=1
   ·rw[if_pos h3];exact .inl ⟨by decide,.inr (.inr h3)⟩
   ·rw[if_neg h3]
    refine .inr ⟨h1,h2.1,h2.2,fun h=>h3 (.inl h),fun h=>h3 (.inr h),?_⟩
    by_cases h4:R.getD (zaw f b) default<0
    ·rw[if_pos h4];exact .inl ⟨rfl,h4⟩
    ·rw[if_neg h4];exact .inr ⟨rfl,by omega⟩
  ·rw[if_pos h2];exact .inl ⟨by decide,.inr (.inl h2)⟩
 ·rw[if_pos h1];exact .inl ⟨h1,.inl h1⟩
def PP (f:Fld) (far:List Int) (c n:Cel):Prop:=(zdn f n).2=true∧0≤far.getD (zaw f n) default∧far.getD (zaw f n) default+kV (zar f c)=far.getD (zaw f c) default
instance (f:Fld) (far:List Int) (c n:Cel):Decidable (PP f far c n):=by unfold PP;infer_instance
section
variable {f : Fld} {a b c : Cel} {R : List Int} {W H : Nat}
theorem zyh (s:Srch f a b R W H) (hf:zbl f=0) (hpa:zar f a≠1) (hc:inF f c=true) (h0:0≤R.getD (zaw f c) default):zdn f c=(kV (zar f c),true):=by
 have epl:zar f c=f.p.getD (zaw f c) default:=rfl
 have:zar f c≠1:=by
  rw[epl]
  rcases s.r.why _ (zbz s.w s.h s.w0 hf hc).2 h0 with ⟨w1,_⟩|⟨_,_,_,hr,_⟩
  ·rw[List.mem_singleton]at w1;rw[w1];exact hpa
  ·exact hr
 unfold zdn
 rw[if_pos hc,if_neg this]
theorem ycz (s:Srch f a b R W H) (hf:zbl f=0) (ha:inF f a=true) (hb:inF f b=true) (hpa:zar f a≠1) (hc:inF f c=true) (h0:0≤R.getD (zaw f c) default) (hb0:0≤R.getD (zaw f b) default) (hcb:R.getD (zaw f c) default+zb3 b c≤R.getD (zaw f b) default) (hfc:(zdq f a b).1.getD (zaw f c) default=R.getD (zaw f c) default) {n:Cel} (hn:n∈zam c) :
 PP f (zdq f a b).1 c n↔(inF f n=true∧zpp R f c n=true) :=
 yez s.w s.h s.w0 hf s.l s.r ha hpa hc h0 s.ass hcb ((s.end hf ha hb).2 hb0).2 hfc hn
theorem z99 (s:Srch f a b R W H) (hf:zbl f=0) (ha:inF f a=true) (hb:inF f b=true) (hpa:zar f a≠1) (hc:inF f c=true) (h0:0≤R.getD (zaw f c) default) (hb0:0≤R.getD (zaw f b) default) (hcb:R.getD (zaw f c) default+zb3 b c≤R.getD (zaw f b) default) (hfc:(zdq f a b).1.getD (zaw f c) default=R.getD (zaw f c) default)
 {k:Nat} (hk:k<4) (hn:∀i,i<k→¬PP f (zdq f a b).1 c ((zam c).getD i default)) (hp:PP f (zdq f a b).1 c ((zam c).getD k default)):(zam c).getD k default=zmx R f c:=by
 have h4:(zam c).length=4:=rfl
 have e1:(zam c).find? (fun n=>decide (PP f (zdq f a b).1 c n))=some ((zam c).getD k default):=by
  rw[List.find?_eq_some_iff_getElem]
  refine⟨by simpa using hp,k,by omega,(zaq _ _ (by omega)).symm,fun j hj=>?_⟩
  have:=hn j hj
  rw[zaq _ _ (by omega)]at this
  simpa using this
 have e2:=z2e (f:=f) (R:=R) (c:=c) (p:=fun n=>decide (PP f (zdq f a b).1 c n)) fun n hn=>by
  have:=ycz s hf ha hb hpa hc h0 hb0 hcb hfc hn
  rw[Bool.eq_iff_iff,decide_eq_true_eq,bJ];exact this
 rw[e1]at e2
 unfold zmx
 rw[←e2];rfl
theorem ymu (s:Srch f a b R W H) (hf:zbl f=0) (ha:inF f a=true) (hb:inF f b=true) (hpa:zar f a≠1) (hc:inF f c=true) (h0:0≤R.getD (zaw f c) default) (hb0:0≤R.getD (zaw f b) default) (hcb:R.getD (zaw f c) default+zb3 b c≤R.getD (zaw f b) default) (hfc:(zdq f a b).1.getD (zaw f c) default=R.getD (zaw f c) default)
 (hca:c≠a) (hn:∀i,i<4→¬PP f (zdq f a b).1 c ((zam c).getD i default)):False:=by
 obtain⟨_,hm,hin,_,h1,h2⟩:=zur s.w s.h s.w0 hf s.l s.r ha hc hca h0
 have hms:=(List.mem_filter.1 hm).1
 obtain⟨i,hi,e⟩:=mem_getD.1 hms
 refine hn i hi ?_
 rw[←e]at hms
 rw[ycz s hf ha hb hpa hc h0 hb0 hcb hfc hms,e]
 exact⟨hin,by unfold zpp;rw[bJ,decide_eq_true_eq,decide_eq_true_eq];exact⟨h1,h2⟩⟩
theorem yak (s:Srch f a b R W H) (hf:zbl f=0) (ha:inF f a=true) (hb:inF f b=true) (hc:inF f c=true) (h0:0≤R.getD (zaw f c) default) (hb0:0≤R.getD (zaw f b) default) (hcb:R.getD (zaw f c) default+zb3 b c≤R.getD (zaw f b) default) (hca:c≠a) :
 inF f (zmx R f c)=true∧0≤R.getD (zaw f (zmx R f c)) default∧R.getD (zaw f (zmx R f c)) default+2≤R.getD (zaw f c) default∧R.getD (zaw f (zmx R f c)) default+zb3 b (zmx R f c)≤R.getD (zaw f b) default∧(zdq f a b).1.getD (zaw f (zmx R f c)) default=R.getD (zaw f (zmx R f c)) default:=by
 obtain⟨_,hm,hin,hadj,h1,h2⟩:=zur s.w s.h s.w0 hf s.l s.r ha hc hca h0
 have hkv:=zxi (zar f c)
 have hcons:=zso s.w s.h s.w0 b
 rw[←s.l]at hcons
 obtain⟨en,hnL⟩:=zbz s.w s.h s.w0 hf hin
 obtain⟨ec,hcL⟩:=zbz s.w s.h s.w0 hf hc
 have hle:=hcons _ _ hnL hcL hadj.symm
 simp only at hle
 rw[←en,←ec]at hle
 refine⟨hin,h1,by omega,by omega,?_⟩
 exact s.ass.known hcons (zbz s.w s.h s.w0 hf ha).2 s.r hnL h1 (fun x hx=>by have:=((s.end hf ha hb).2 hb0).2 x hx;rw[←en];omega)
theorem zyy (s:Srch f a b R W H) (hl:f.p.length≤1600) (p:Nat) (hp:p<f.p.length) : -1≤(zdq f a b).1.getD p default∧(zdq f a b).1.getD p default≤4800:=by
 have h1:=s.ass.low p hp
 have h2:=s.ass.top p hp
 have h3:=zhr zf3 1 zhz (zdq f a b).1
 rw[s.ass.len]at h3
 omega
end
theorem cel_ne {c a:Cel} : ¬(c.x=a.x∧c.y=a.y)↔c≠a:=by
 obtain⟨x,y⟩:=c;obtain⟨u,v⟩:=a;simp
theorem zrx (f:Fld) (a b:Cel) (hl:f.p.length≤9223372036854775807) (R:List Int) (hR:zbu f [a] R):Spec Tryz.prog 88 [ziq f,zeu a,zeu b] [] (.tup [.c (.sl 2 ((if zek R f a b=0 then zmd R f a b else []).map zbk)),I .i64 (zml R f a b),I .i64 (zek R f a b)]) []:=by
 rcases zp2 R f a b with ⟨hE,hbad⟩|⟨hf,ha,hb,hpa,hpb,⟨hE,h0⟩|⟨hE,h0⟩⟩
 ·have e:zml R f a b=0:=if_neg hE
  rw[if_neg hE]
  refine spB Tryz.func88 107 [.tmp 6,.tmp 7,.tmp 8] Tryz.results88 ?_
  try refine xst ?_
  refine caP (zws f a b hl hbad R) ?_
  try refine xst ?_
  refine cI (fun h1=>?_) fun h1=>?_
  ·skip
   try refine xst ?_
   exact zcw e rfl
  ·exact absurd h1 hE
 ·have e:zml R f a b=0:=if_neg (by rw[hE];decide)
  rw[e,hE,if_neg (by decide)]
  refine spB Tryz.func88 107 [.tmp 6,.tmp 7,.tmp 8] Tryz.results88 ?_
  try refine xst ?_
  refine caP (zt5 f a b hl hf ha hb hpa hpb hR h0) ?_
  try refine xst ?_
  refine cI (fun h1=>?_) fun h1=>?_
  ·try refine xst ?_
   exact xrz rfl
  ·exact absurd h1 (by decide)
 ·have e:zml R f a b=R.getD (zaw f b) default:=if_pos hE
  obtain⟨W,H,s⟩:=yeb (b:=b) hf ha hpa hR
  have hend:=(s.end hf ha hb).2 h0
  have hbF:zaw f b<(zdq f a b).1.length:=by rw[s.ass.len];exact(zbz s.w s.h s.w0 hf hb).2
  have hpx:=zbb hf ha
  rw[e,hE,if_pos rfl]
  refine spB Tryz.func88 107 [.tmp 6,.tmp 7,.tmp 8] Tryz.results88 ?_
  try refine xy0 ?_
  refine caM [] (zwr f a b hl hf ha hb hpa hpb hR h0) ?_
  try refine xy0 ?_
  refine cI (fun h1=>?_) fun h1=>?_
  ·exact absurd h1 (by decide)
  ·try refine xy0 ?_
   refine zay (fun x:Nat × Cel × List Cel=>⟨[(12,.ptr 5 0 0),(11,.own 6),(9,.ptr 0 0 0),(5,.ptr 4 0 0),(4,.ptr 3 0 0)],[(0,srB f b (.own 1) (.own 2)),(1,.row 3 1 ((zdq f a b).1.map zao)),(2,.row 270 4 ((zdq f a b).2.map zhl)),(3,.blk 72 [I .i64 a.x,I .i64 a.y]),(4,.blk 72 [I .i64 b.x,I .i64 b.y]),(5,.blk 72 [I .i64 x.2.1.x,I .i64 x.2.1.y]),(6,.row 72 2 (x.2.2.map zbk))],7⟩) (fun x:Nat × Cel × List Cel=>inF f x.2.1=true∧0≤R.getD (zaw f x.2.1) default∧R.getD (zaw f x.2.1) default≤x.1∧(zdq f a b).1.getD (zaw f x.2.1) default=R.getD (zaw f x.2.1) default∧R.getD (zaw f x.2.1) default+zb3 b x.2.1≤R.getD (zaw f b) default∧x.2.2++zpm R f a x.1 x.2.1=b::zpm R f a (R.getD (zaw f b) default).toNat b∧x.2.2.length+x.1≤4801) (fun x:Nat × Cel × List Cel=>x.1) (((R.getD (zaw f b) default).toNat,b,[b])) (⟨hb,h0,by simp only;omega,hend.1,by simp only[zb3];omega,rfl,by have:=(zyy s hpx.2.2.2.2 _ (show zaw f b<f.p.length by rw[←s.ass.len];exact hbF)).2;rw[hend.1]at this;simp only[List.length_singleton];omega⟩) (To.mk [3,4,5,1,2,7,6] rfl rfl (by decide) ?_ ?_) ?_
   ·(iterate 2((try simp(etaStruct := .none)only[push_cast,zad,seval,srB,zbk]);(try(refine xsu ?_;try exact xtI))))
   ·exact xS
   rintro⟨N,c,out⟩ ⟨hc,hc0,hcN,hfc,hcb,hway,hlen⟩
   simp only at hc hc0 hcN hfc hcb hway hlen
   try refine xy0 ?_
   refine cI (fun h2=>?_) fun h2=>?_
   ·have hca:c≠a:=cel_ne.1 (fun h=>by rcases h2 with h2|h2;exact h2 h.1;exact h2 h.2)
    have hwc:=zyh s hf hpa hc hc0
    have hci:=inF_iff.1 hc
    have hfo:=za4 hf
    have hkv:=zxi (zar f c)
    have hcF:zaw f c<(zdq f a b).1.length:=by rw[s.ass.len];exact(zbz s.w s.h s.w0 hf hc).2
    obtain⟨n1,n2,n3,n4,n5⟩:=yak s hf ha hb hc hc0 h0 hcb hca
    obtain⟨M,rfl⟩:∃M,N=M+1:=⟨N-1,by omega⟩
    try refine xy0 ?_
    refine zc0 (zw3 f b (zdq f a b).1 (zdq f a b).2 c hf) (WkL.refl _) rfl ?_
    rw[hwc]
    try refine xy0 ?_
    refine caP (zy7 c (by omega) (by omega)) ?_
    try refine xy0 ?_
    refine zay (fun k:Nat=>⟨[(43,I .i64 k),(42,.agg [I .i64 c.x,I .i64 (c.y-1),I .i64 (c.x-1),I .i64 c.y,I .i64 (c.x+1),I .i64 c.y,I .i64 c.x,I .i64 (c.y+1)]),(13,I .i64 (kV (zar f c))),(12,.ptr 5 0 0),(11,.own 6),(9,.ptr 0 0 0),(5,.ptr 4 0 0),(4,.ptr 3 0 0)],[(0,srB f b (.own 1) (.own 2)),(1,.row 3 1 ((zdq f a b).1.map zao)),(2,.row 270 4 ((zdq f a b).2.map zhl)),(3,.blk 72 [I .i64 a.x,I .i64 a.y]),(4,.blk 72 [I .i64 b.x,I .i64 b.y]),(5,.blk 72 [I .i64 c.x,I .i64 c.y]),(6,.row 72 2 (out.map zbk))],7⟩) (fun k:Nat=>k≤4∧∀i,i<k→¬PP f (zdq f a b).1 c ((zam c).getD i default)) (fun k:Nat=>4-k) (0) (⟨Nat.zero_le _,fun i h=>absurd h (Nat.not_lt_zero _)⟩) (To.mk [0,1,2,3,4,5,6] rfl rfl (by decide) ?_ ?_) ?_
    ·exact xS
    ·exact xS
    rintro k ⟨hk,hno⟩
    try refine xy0 ?_
    refine cI (fun h3=>?_) fun h3=>?_
    ·have hlt:k<4:=by omega
     have hsc:=znw c k hlt
     have hgG:yf8 f ((zam c).getD k default)<(zdq f a b).1.length:=by rw[s.ass.len];exact z6v hf _
     have hbG:=zyy s hpx.2.2.2.2 (yf8 f ((zam c).getD k default)) (by rw[←s.ass.len];exact hgG)
     try refine xy4 hsc (gd hgG) (gd hcF) zab ?_
     refine zc0 (zw3 f b (zdq f a b).1 (zdq f a b).2 ((zam c).getD k default) hf) (WkL.refl _) rfl ?_
     try refine xy4 hsc (gd hgG) (gd hcF) zab ?_
     refine zdc [some 52,some 53,some 54,some 55,some 56,some 57,some 58,some 59,some 60,some 61,some 62,some 63,some 64,some 65,some 66,some 67,some 68,some 69,some 70,some 71,some 72,some 73,some 74,some 75,some 76,some 77,some 78,some 79,some 80,some 81,some 82,some 83,some 84,some 85,some 86,some 87] rfl ?_
     intro Oq lq Rq hlq hdq hRq
     subst hlq
     iterate 8(refine zby fun rq hrq=>?_;(try(refine xy6 hdq hsc (gd hgG) (gd hcF) zab Qb0 ?_;try exact xtI));subst hrq)
     refine zby fun rq hrq=>?_
     try refine xy6 hdq hsc (gd hgG) (gd hcF) zab Qb0 ?_
     refine zhj (fun hcc=>zoe f b (zdq f a b).1 (zdq f a b).2 ((zam c).getD k default) hf hcc) (WkL.refl _) rfl xG ?_
     try refine xy6 hdq hsc (gd hgG) (gd hcF) zab Qb0 ?_
     subst hrq
     iterate 11(refine zby fun rq hrq=>?_;(try(refine xy6 hdq hsc (gd hgG) (gd hcF) zab Qb0 ?_;try exact xtI));subst hrq)
     refine zby fun rq hrq=>?_
     try refine xy6 hdq hsc (gd hgG) (gd hcF) zab Qb0 ?_
     refine zhj (fun hcc=>zoe f b (zdq f a b).1 (zdq f a b).2 ((zam c).getD k default) hf (by simp only[bJ]at hcc;exact hcc.1)) (WkL.refl _) rfl xG ?_
     try refine xy6 hdq hsc (gd hgG) (gd hcF) zab Qb0 ?_
     subst hrq
     iterate 10(refine zby fun rq hrq=>?_;(try(refine xy6 hdq hsc (gd hgG) (gd hcF) zab Qb0 ?_;try exact xtI));subst hrq)
     refine zby fun rq hrq=>?_
     try refine xy6 hdq hsc (gd hgG) (gd hcF) zab Qb0 ?_
     refine zhj (fun hcc=>zft f b (zdq f a b).1 (zdq f a b).2 c hf hc) (WkL.refl _) rfl xG ?_
     try refine xy6 hdq hsc (gd hgG) (gd hcF) zab Qb0 ?_
     subst hrq
     iterate 4(refine zby fun rq hrq=>?_;(try(refine xy6 hdq hsc (gd hgG) (gd hcF) zab Qb0 ?_;try exact xtI));subst hrq)
     refine zv9 ?_
     subst hRq
     clear hdq Oq
     refine zv8 (by kernel_rfl) ?_
     try refine xy4 hsc (gd hgG) (gd hcF) zab ?_
     refine cI (fun h4=>?_) fun h4=>?_
     ·have hin2:inF f ((zam c).getD k default)=true:=by
       cases hi:inF f ((zam c).getD k default)with
       | true=>rfl
       | false=>have:=h4.1.1;unfold zdn at this;rw[hi]at this;simp at this
      have hPP:PP f (zdq f a b).1 c ((zam c).getD k default):=⟨h4.1.1,by rw[←zlp hin2];exact h4.1.2,by rw[←zlp hin2];exact h4.2⟩
      have hnk:=z99 s hf ha hb hpa hc hc0 h0 hcb hfc hlt hno hPP
      rw[zpm,if_neg hca]at hway
      try refine xy5 hsc (gd hgG) (gd hcF) zab hnk ?_
      refine⟨(M,zmx R f c,out ++ [zmx R f c]),⟨n1,n2,by simp only;omega,n5,n4,by simp only;rw[List.append_assoc];exact hway,by simp only[List.length_append,List.length_singleton];omega⟩,by simp only;omega,To.mk [0,1,2,3,4,154,153] rfl rfl (by decide) ?_ ?_⟩
      ·(try(refine xz2 zag Qp ?_;try exact xtI))
      ·(try(refine xy5 hsc (gd hgG) (gd hcF) zab hnk ?_;try exact xtI))
     ·have hno2:∀i,i<k+1→¬PP f (zdq f a b).1 c ((zam c).getD i default):=fun i hi=>by
       rcases Nat.lt_or_ge i k with h|h
       ·exact hno i h
       ·obtain rfl:i=k:=by omega
        rintro⟨p1,p2,p3⟩
        have hin2:inF f ((zam c).getD i default)=true:=by
         cases hi:inF f ((zam c).getD i default)with
         | true=>rfl
         | false=>unfold zdn at p1;rw[hi]at p1;simp at p1
        rw[←zlp hin2]at p2 p3
        rcases h4 with (h4|h4)|h4
        ·rw[p1]at h4;exact absurd h4 (by decide)
        ·omega
        ·exact h4 p3
      try refine xy4 hsc (gd hgG) (gd hcF) zab ?_
      refine⟨k+1,⟨by omega,hno2⟩,by omega,To.mk [0,1,2,3,4,5,6] rfl rfl (by decide) ?_ ?_⟩
      ·(try(refine xy4 hsc (gd hgG) (gd hcF) zab ?_;try exact xtI))
      ·(iterate 2((try simp(etaStruct := .none) (maxSteps:=1000000)only[push_cast,zad,seval]);(try(refine xsu ?_;try exact xtI))))
    ·obtain rfl:k=4:=by omega
     exact(ymu s hf ha hb hpa hc hc0 h0 hcb hfc hca hno).elim
   ·have hca:c=a:=Decidable.byContradiction fun h=>cel_ne.2 h h2
    have hout:out=b::zpm R f a (R.getD (zaw f b) default).toNat b:=by
     have e0:zpm R f a N c = []:=by
      cases N with
      | zero=>rfl
      | succ N=>rw[zpm,if_pos hca]
     rw[←hway,e0,List.append_nil]
    have hov:out.reverse=zmd R f a b:=by unfold zmd;rw[hout]
    try refine xy4 (gd hbF) zab hend.1 hov ?_
    refine caM [6] (z78 out (by omega)) ?_
    try refine xy4 (gd hbF) zab hend.1 hov ?_
    refine zdc [some 97,some 98,some 99,some 100,some 101,some 102,some 103,some 104,some 105,some 106,some 6,some 7,some 8] rfl ?_
    intro Oq lq Rq hlq hdq hRq
    subst hlq
    iterate 7(refine zby fun rq hrq=>?_;(try(refine xy6 hdq (gd hbF) zab hend.1 hov Qb0 ?_;try exact xtI));subst hrq)
    refine zby fun rq hrq=>?_
    try refine xy6 hdq (gd hbF) zab hend.1 hov Qb0 ?_
    refine zc0 (zft f b (zdq f a b).1 (zdq f a b).2 b hf hb) (WkL.refl _) rfl ?_
    try refine xy6 hdq (gd hbF) zab hend.1 hov Qb0 ?_
    subst hrq
    iterate 5(refine zby fun rq hrq=>?_;(try(refine xy6 hdq (gd hbF) zab hend.1 hov Qb0 ?_;try exact xtI));subst hrq)
    refine zv9 ?_
    subst hRq
    clear hdq Oq
    refine zv8 (by kernel_rfl) ?_
    try refine xy4 (gd hbF) zab hend.1 hov ?_
    exact xrz rfl
theorem z3c (f:Fld) (R:List Int) (n:Cel) (hf:zbl f=0) (hn:inF f n=true) (hR:zaw f n<R.length):Spec Tryz.prog 103 [zeu n,.fel 1 [[.sl 1 (R.map zao)]] 0 0,.fel 3 [[pI f.w,pI f.h,.sl 1 (f.p.map zao)]] 0 0] [] (I .i64 (R.getD (zaw f n) default)) []:=by
 obtain⟨i1,i2,i3,i4,i5⟩:=zbb hf hn
 have hci:=inF_iff.1 hn
 have e1:IntKind.i64.wrap (IntKind.i64.wrap (n.y*f.w)+n.x)=(zaw f n:Int):=by rw[zaj (n.y*f.w) (by omega) (by omega),zaj _ (by omega) (by omega)];unfold zaw;omega
 refine spB Tryz.func103 16 [.tmp 4] Tryz.results103 ?_
 try refine xz3 e1 (gd hR) zab ?_
 exact xrz rfl
abbrev ykp (f:Fld) (R:List Int) (c:Cel):List Chunk := [.blk 171 [.clo (.func 103) [] [.ptr 1 0 0,.ptr 2 0 0]],.blk 26 [.c (.sl 1 (R.map zao))],.blk 28 (ybq f),.blk 72 [I .i64 c.x,I .i64 c.y]]
theorem yk8 (f:Fld) (R:List Int) (c n:Cel) (hf:zbl f=0) (hn:inF f n=true) (hc:inF f c=true) (hr:zar f c≠1) (hR:R.length=f.p.length) (hb : -1≤R.getD (zaw f n) default∧R.getD (zaw f n) default≤4800):Spec Tryz.prog 106 [zeu n,.ptr 0 0 0,.ptr 2 0 0,.ptr 3 0 0] (ykp f R c) (B (zpp R f c n)) (ykp f R c):=by
 have hnF:zaw f n<R.length:=by rw[hR];have:=zbb hf hn;unfold zaw;omega
 have hcF:zaw f c<R.length:=by rw[hR];have:=zbb hf hc;unfold zaw;omega
 have hkv:=zxi (zar f c)
 have hpl:=(za4 hf).2.2.2 (zar f c) (zax f.p _ (show (c.y*f.w+c.x).toNat<f.p.length by have:=zbb hf hc;omega))
 have hcost:(if zar f c=1 then (-1:Int)else kV (zar f c))=kV (zar f c):=if_neg hr
 refine spB Tryz.func106 24 [.tmp 5] Tryz.results106 ?_
 try refine xy1 hcost ?_
 refine zdc [some 6,some 7,some 8,some 9,some 10,some 11,some 12,some 13,some 14,some 15,some 16,some 17,some 18,some 19,some 20,some 21,some 22,some 23,some 5] rfl ?_
 intro Oq lq Rq hlq hdq hRq
 subst hlq
 iterate 2(refine zby fun rq hrq=>?_;(try(refine xy3 hdq hcost Qb0 ?_;try exact xtI));subst hrq)
 refine zby fun rq hrq=>?_
 try refine xy3 hdq hcost Qb0 ?_
 refine zc0 (z3c f R n hf hn hnF) (WkL.refl _) rfl ?_
 try refine xy3 hdq hcost Qb0 ?_
 subst hrq
 iterate 4(refine zby fun rq hrq=>?_;(try(refine xy3 hdq hcost Qb0 ?_;try exact xtI));subst hrq)
 refine zby fun rq hrq=>?_
 try refine xy3 hdq hcost Qb0 ?_
 refine zhj (fun hcc=>z3c f R n hf hn hnF) (WkL.refl _) rfl xG ?_
 try refine xy3 hdq hcost Qb0 ?_
 subst hrq
 iterate 2(refine zby fun rq hrq=>?_;(try(refine xy3 hdq hcost Qb0 ?_;try exact xtI));subst hrq)
 refine zby fun rq hrq=>?_
 try refine xy3 hdq hcost Qb0 ?_
 refine gcP (fun hcc=>zlf f c hf hc) ?_
 try refine xy3 hdq hcost Qb0 ?_
 subst hrq
 refine zby fun rq hrq=>?_
 try refine xy3 hdq hcost Qb0 ?_
 refine gcP (fun hcc=>z0v (zar f c) hpl) ?_
 try refine xy3 hdq hcost Qb0 ?_
 subst hrq
 iterate 3(refine zby fun rq hrq=>?_;(try(refine xy3 hdq hcost Qb0 ?_;try exact xtI));subst hrq)
 refine zby fun rq hrq=>?_
 try refine xy3 hdq hcost Qb0 ?_
 refine zhj (fun hcc=>z3c f R c hf hc hcF) (WkL.refl _) rfl xG ?_
 try refine xy3 hdq hcost Qb0 ?_
 subst hrq
 iterate 3(refine zby fun rq hrq=>?_;(try(refine xy3 hdq hcost Qb0 ?_;try exact xtI));subst hrq)
 refine zv9 ?_
 subst hRq
 clear hdq Oq
 refine zv8 (by kernel_rfl) ?_
 try refine xy1 hcost ?_
 refine zb9 [0,1,2,3] rfl rfl (by decide) ⟨?_,?_,?_,?_,trivial⟩ trivial ?_<;>simp(etaStruct := .none)only[push_cast,zad,seval,zpp]
theorem ylb (f:Fld) (R:List Int) (c:Cel) (l:List Cel) (hl:l.length≤1000) (hf:zbl f=0) (hc:inF f c=true) (hr:zar f c≠1) (hR:R.length=f.p.length) (hn:∀n∈l,inF f n=true ∧ -1≤R.getD (zaw f n) default∧R.getD (zaw f n) default≤4800):Spec Tryz.prog 105 [.c (.sl 2 (l.map zbk)),.clo (.func 106) [] [.ptr 0 0 0,.ptr 2 0 0,.ptr 3 0 0]] (ykp f R c) (I .i64 (zg6 (zpp R f c) l)) (ykp f R c):=by
 refine spB Tryz.func105 19 [.tmp 4] Tryz.results105 ?_
 try refine xst ?_
 refine zay (fun k:Nat=>⟨[(8,I .i64 k),(7,I .i64 l.length),(1,.clo (.func 106) [] [.ptr 0 0 0,.ptr 2 0 0,.ptr 3 0 0]),(0,.c (.sl 2 (l.map zbk)))],[(0,.blk 171 [.clo (.func 103) [] [.ptr 1 0 0,.ptr 2 0 0]]),(1,.blk 26 [.c (.sl 1 (R.map zao))]),(2,.blk 28 (ybq f)),(3,.blk 72 [I .i64 c.x,I .i64 c.y])],4⟩) (fun k:Nat=>k≤l.length∧∀j (hj:j<l.length),j<k→zpp R f c l[j]=false) (fun k:Nat=>l.length-k) (0) (⟨Nat.zero_le _,fun j _ h=>absurd h (Nat.not_lt_zero _)⟩) (To.mk [0,1,2,3] rfl rfl (by decide) ?_ ?_) ?_
 ·exact xS
 ·exact xS
 rintro k ⟨hk,hno⟩
 try refine xst ?_
 refine cI (fun h1=>?_) fun h1=>?_
 ·have hlt:k<l.length:=by omega
  have hnk:=hn _ (zax l k hlt)
  try refine xz2 (gd hlt) zag ?_
  refine caM [0,1,2,3] (yk8 f R c (l.getD k default) hf hnk.1 hc hr hR hnk.2) ?_
  try refine xz2 (gd hlt) zag ?_
  refine cI (fun h2=>?_) fun h2=>?_
  ·have e:=zfw (zpp R f c) l k hlt (by rw[←zaq l k hlt];exact h2) hno
   rw[e]
   try refine xz2 (gd hlt) zag ?_
   refine zb9 [0,1,2,3] rfl rfl (by decide) ⟨?_,?_,?_,?_,trivial⟩ trivial ?_<;>exact xS
  ·have hno2:∀j (hj:j<l.length),j<k+1→zpp R f c l[j]=false:=fun j hj h=>by
    rcases Nat.lt_or_ge j k with h3|h3
    ·exact hno j hj h3
    ·obtain rfl:j=k:=by omega
     rw[←zaq l j hj];exact h2
   try refine xz2 (gd hlt) zag ?_
   refine⟨k+1,⟨by omega,hno2⟩,by omega,To.mk [0,1,2,3] rfl rfl (by decide) ?_ ?_⟩
   ·(try(refine xz2 (gd hlt) zag ?_;try exact xtI))
   ·(try(refine xz2 (gd hlt) zag ?_;try exact xtI))
 ·have e:=zer (zpp R f c) l (fun j hj=>hno j hj (by omega))
  rw[e]
  try refine xst ?_
  refine zb9 [0,1,2,3] rfl rfl (by decide) ⟨?_,?_,?_,?_,trivial⟩ trivial ?_<;>exact xS
theorem z6p {α : Type} [Inhabited α] {p : α → Bool} {l:List α} {x : α} (h:l.find? p=some x):∃i:Nat,zg6 p l=(i:Int)∧i<l.length∧l.getD i default=x:=by
 rw[List.find?_eq_some_iff_getElem]at h
 obtain⟨h1,i,hi,rfl,h2⟩:=h
 exact⟨i,zfw p l i hi h1 (fun j hj hji=>by simpa using h2 j hji),hi,zaq _ _ hi⟩
theorem z8u {f:Fld} {a:Cel} {R:List Int} (hf:zbl f=0) (ha:inF f a=true) (hpa:zar f a≠1) (hR:zbu f [a] R) {n:Cel} (hn:inF f n=true) : -1≤R.getD (zaw f n) default∧R.getD (zaw f n) default≤4800:=by
 obtain⟨W,H,s⟩:=yeb (b:=n) hf ha hpa hR
 have hnL:=(zbz s.w s.h s.w0 hf hn).2
 have h1:=s.r.low _ hnL
 refine⟨h1,?_⟩
 rcases Int.lt_or_le (R.getD (zaw f n) default) 0 with h|h
 ·omega
 ·have h2:=((s.end hf ha hn).2 h).1
  have h3:=(zyy s (zbb hf ha).2.2.2.2 _ hnL).2
  omega
theorem z3a (f:Fld) (a b:Cel) (hl:f.p.length≤9223372036854775807) (R:List Int) (hR:zbu f [a] R):Spec Tryz.prog 75 [ziq f,zeu a,zeu b] [] (.tup [.c (.sl 2 ((if zek R f a b=0 then zmd R f a b else []).map zbk)),I .i64 (zml R f a b),I .i64 (zek R f a b)]) []:=by
 have hE6:zbl f≠0→zek R f a b=zbl f:=fun h=>by unfold zek;rw[if_pos h]
 refine spB Tryz.func75 79 [.tmp 6,.tmp 7,.tmp 8] Tryz.results75 ?_
 try refine xst ?_
 refine caP (zsx f hl) ?_
 try refine xst ?_
 refine cI (fun h1=>?_) fun h1=>?_
 ·have e:=hE6 h1
  have e2:zml R f a b=0:=by unfold zml;rw[if_neg (by rw[e];exact h1)]
  have e3:(if zek R f a b=0 then zmd R f a b else []) = []:=if_neg (by rw[e];exact h1)
  rw[e3,e2,e]
  try refine xst ?_
  exact xrz rfl
 ·have hf:=h1
  try refine xst ?_
  refine caP (z17 f a hf) ?_
  try refine xst ?_
  refine gcP (fun hcc=>z17 f b hf) ?_
  try refine xst ?_
  refine cI (fun h2=>?_) fun h2=>?_
  ·have e:zek R f a b=7:=by
    unfold zek
    rw[if_neg (by simp[hf]),if_pos]
    rintro⟨k1,k2⟩
    rw[k1,k2]at h2
    simp at h2
   have e2:zml R f a b=0:=by unfold zml;rw[if_neg (by rw[e];decide)]
   have e3:(if zek R f a b=0 then zmd R f a b else []) = []:=if_neg (by rw[e];decide)
   rw[e3,e2,e]
   try refine xst ?_
   exact xrz rfl
  ·obtain⟨ha,hb⟩:inF f a=true∧inF f b=true:=by simpa using h2
   try refine xst ?_
   refine caP (zlf f a hf ha) ?_
   try refine xst ?_
   refine gcP (fun hcc=>zlf f b hf hb) ?_
   try refine xst ?_
   refine cI (fun h3=>?_) fun h3=>?_
   ·have e:zek R f a b=9:=by
     unfold zek
     rw[if_neg (by simp[hf]),if_neg (fun h=>h ⟨ha,hb⟩),if_pos h3]
    have e2:zml R f a b=0:=by unfold zml;rw[if_neg (by rw[e];decide)]
    have e3:(if zek R f a b=0 then zmd R f a b else []) = []:=if_neg (by rw[e];decide)
    rw[e3,e2,e]
    try refine xst ?_
    exact xrz rfl
   ·obtain⟨hpa,hpb⟩:=h3
    have hRl:∃W H,Srch f a b R W H:=yeb hf ha hpa hR
    obtain⟨W,H,s⟩:=hRl
    have hbF:zaw f b<R.length:=by rw[s.r.len];exact(zbz s.w s.h s.w0 hf hb).2
    have hpx:=zbb hf ha
    try refine xst ?_
    refine zcn [3] (Spec.hand 0 (ybo f [a] R hR hl (by simp)) (Nat.zero_le _) rfl (by exact WkL.refl _) rfl) (WkL.refl _) rfl (by decide) (by simp[za6]) ?_
    try refine xst ?_
    refine zc0 (z3c f R b hf hb hbF) (WkL.refl _) rfl ?_
    try refine xst ?_
    refine cI (fun h4=>?_) fun h4=>?_
    ·have e:zek R f a b=6:=by
      unfold zek
      rw[if_neg (by simp[hf]),if_neg (fun h=>h ⟨ha,hb⟩),if_neg (fun h=>by rcases h with h|h;exact hpa h;exact hpb h),if_pos h4]
     have e2:zml R f a b=0:=by unfold zml;rw[if_neg (by rw[e];decide)]
     have e3:(if zek R f a b=0 then zmd R f a b else []) = []:=if_neg (by rw[e];decide)
     rw[e3,e2,e]
     try refine xst ?_
     exact xrz rfl
    ·have hE:zek R f a b=0:=by
      unfold zek
      rw[if_neg (by simp[hf]),if_neg (fun h=>h ⟨ha,hb⟩),if_neg (fun h=>by rcases h with h|h;exact hpa h;exact hpb h),if_neg (by omega)]
     have e2:zml R f a b=R.getD (zaw f b) default:=if_pos hE
     rw[e2,hE,if_pos rfl]
     have hRb:=z8u hf ha hpa hR hb
     try refine xst ?_
     refine zay (fun x:Nat × Cel × List Cel=>⟨[(14,.ptr 5 0 0),(13,.own 6),(12,.ptr 0 0 0),(5,.ptr 4 0 0),(4,.ptr 3 0 0),(3,.ptr 2 0 0)],[(0,.blk 171 [.clo (.func 103) [] [.ptr 1 0 0,.ptr 2 0 0]]),(1,.blk 26 [.c (.sl 1 (R.map zao))]),(2,.blk 28 (ybq f)),(3,.blk 72 [I .i64 a.x,I .i64 a.y]),(4,.blk 72 [I .i64 b.x,I .i64 b.y]),(5,.blk 72 [I .i64 x.2.1.x,I .i64 x.2.1.y]),(6,.row 72 2 (x.2.2.map zbk))],7⟩) (fun x:Nat × Cel × List Cel=>inF f x.2.1=true∧0≤R.getD (zaw f x.2.1) default∧R.getD (zaw f x.2.1) default≤x.1∧x.2.2++zpm R f a x.1 x.2.1=b::zpm R f a (R.getD (zaw f b) default).toNat b∧x.2.2.length+x.1≤4801) (fun x:Nat × Cel × List Cel=>x.1) (((R.getD (zaw f b) default).toNat,b,[b])) (⟨hb,by simp only;omega,by simp only;omega,rfl,by simp only[List.length_singleton];omega⟩) (To.mk [5,4,0,1,2,7,6] rfl rfl (by decide) ?_ ?_) ?_
     ·(try(refine xz1 zag ?_;try exact xtI))
     ·exact xS
     rintro⟨N,c,out⟩ ⟨hc,hc0,hcN,hway,hlen⟩
     simp only at hc hc0 hcN hway hlen
     try refine xst ?_
     refine cI (fun h5=>?_) fun h5=>?_
     ·have hca:c≠a:=cel_ne.1 (fun h=>by rcases h5 with h5|h5;exact h5 h.1;exact h5 h.2)
      have hci:=inF_iff.1 hc
      have hfo:=za4 hf
      have hwc:=zyh s hf hpa hc hc0
      have hrk:zar f c≠1:=fun h=>by unfold zdn at hwc;rw[if_pos hc,if_pos h]at hwc;simp at hwc
      obtain⟨g1,g2,g3,g4,g5,g6⟩:=zur s.w s.h s.w0 hf s.l s.r ha hc hca hc0
      have hkv:=zxi (zar f c)
      obtain⟨M,rfl⟩:∃M,N=M+1:=⟨N-1,by omega⟩
      obtain⟨ix,hix,hixl,hixe⟩:=z6p g1
      rw[zpm,if_neg hca]at hway
      try refine xz4 hix (gd hixl) hixe zag ?_
      refine caP (zv1 f c hf (by omega) (by omega)) ?_
      try refine xz4 hix (gd hixl) hixe zag ?_
      refine caM [0,1,2,5] (ylb f R c (zco f c) (by have:=List.length_filter_le (inF f) (zam c);rw[show (zam c).length=4 from rfl]at this;unfold zco;omega) hf hc hrk s.r.len (fun n hn=>by have h1:=(List.mem_filter.1 hn).2;exact⟨h1,z8u hf ha hpa hR h1⟩)) ?_
      try refine xz4 hix (gd hixl) hixe zag ?_
      refine⟨(M,zmx R f c,out ++ [zmx R f c]),⟨g3,g5,by simp only;omega,by simp only;rw[List.append_assoc];exact hway,by simp only[List.length_append,List.length_singleton];omega⟩,by simp only;omega,To.mk [0,1,2,3,4,7,9] rfl rfl (by decide) ?_ ?_⟩
      ·(try(refine xz2 zag Qp ?_;try exact xtI))
      ·(try(refine xz4 hix (gd hixl) hixe zag ?_;try exact xtI))
     ·have hca:c=a:=Decidable.byContradiction fun h=>cel_ne.2 h h5
      have hout:out=b::zpm R f a (R.getD (zaw f b) default).toNat b:=by
       have e0:zpm R f a N c = []:=by
        cases N with
        | zero=>rfl
        | succ N=>rw[zpm,if_pos hca]
       rw[←hway,e0,List.append_nil]
      have hov:out.reverse=zmd R f a b:=by unfold zmd;rw[hout]
      try refine xz1 hov ?_
      refine caM [6] (z78 out (by omega)) ?_
      try refine xz1 hov ?_
      refine zc0 (z3c f R b hf hb hbF) (WkL.refl _) rfl ?_
      try refine xz1 hov ?_
      exact xrz rfl
def z07 (f:Fld) (WR:Cel→List Int) (a b:Cel):List Cel:=if zek (WR a) f a b=0 then zmd (WR a) f a b else []
def zmk (l:List Gop) (i:Int):Option Gop:=l.find? fun g=>decide (g.id=i)
def zt2 (t:Trp) (c:Cel):Trp:={ t with c:=c }
theorem ycs (t:Trp) (c:Cel):zt2 t c=({ t with c:=c } : Trp):=rfl
def zro (f:Fld) (WR:Cel→List Int) (l:List Gop) (ts:List Trp) (t:Trp):Option Cel:=match zmk l t.id with
 | none=>none
 | some g=>if (z07 f WR t.c g.tw).length<2∨(ts.any fun o=>decide (o.c=(z07 f WR t.c g.tw).getD 1 default))=true then none else some ((z07 f WR t.c g.tw).getD 1 default)
def zd7 (f:Fld) (WR:Cel→List Int) (l:List Gop) (s:List Trp × List Int) (i:Nat):List Trp × List Int:=match zro f WR l s.1 (s.1.getD i default)with
 | none=>s
 | some c=>(s.1.set i (zt2 (s.1.getD i default) c),s.2 ++ [(s.1.getD i default).id])
def zdr (f:Fld) (WR:Cel→List Int) (l:List Gop) (ts:List Trp) (k:Nat):List Trp × List Int:=(List.range k).foldl (zd7 f WR l) (ts,[])
theorem zg2 (f:Fld) (WR:Cel→List Int) (l:List Gop) (ts:List Trp):zdr f WR l ts 0=(ts,[]):=rfl
theorem zfh (f:Fld) (WR:Cel→List Int) (l:List Gop) (ts:List Trp) (k:Nat):zdr f WR l ts (k+1)=zd7 f WR l (zdr f WR l ts k) k:=by
 unfold zdr;rw[List.range_succ,List.foldl_append];rfl
theorem z11 (f:Fld) (WR:Cel→List Int) (l:List Gop) (s:List Trp × List Int) (i:Nat):(zd7 f WR l s i).1.length=s.1.length∧(zd7 f WR l s i).2.length≤s.2.length+1:=by
 unfold zd7
 split
 ·exact⟨rfl,by omega⟩
 ·simp
theorem ze7 (f:Fld) (WR:Cel→List Int) (l:List Gop) (ts:List Trp):∀k,(zdr f WR l ts k).1.length=ts.length∧(zdr f WR l ts k).2.length≤k
 | 0=>⟨rfl,Nat.le_refl _⟩
 | k+1=>by
  rw[zfh]
  have h1:=ze7 f WR l ts k
  have h2:=z11 f WR l (zdr f WR l ts k) k
  omega
def zff (f:Fld) (WR:Cel→List Int) (l:List Gop) (ts:List Trp):List Trp × List Int:=zdr f WR l ts ts.length
def zpl (c:Cel):List Trp→Nat
 | []=>0
 | t::r=>(if t.c=c then 1 else 0)+zpl c r
theorem zs6 (c:Cel):∀l,zpl c l≤l.length
 | []=>Nat.le_refl _
 | t::r=>by have:=zs6 c r;rw[zpl,List.length_cons];split<;>omega
theorem zpb (c:Cel) (m:List Trp):∀l,zpl c (l++m)=zpl c l+zpl c m
 | []=>by simp[zpl]
 | t::r=>by rw[List.cons_append,zpl,zpl,zpb c m r];omega
theorem z0y (c:Cel) (t:Trp):∀(l:List Trp) (i:Nat),i<l.length→zpl c (l.set i t)+(if (l.getD i default).c=c then 1 else 0)=zpl c l+(if t.c=c then 1 else 0)
 | [],i,h=>by simp at h
 | a::r,0,_=>by rw[List.set_cons_zero,zpl,zpl,List.getD_cons_zero];omega
 | a::r,i+1,h=>by
  have:=z0y c t r i (by simpa using h)
  rw[List.set_cons_succ,zpl,zpl,List.getD_cons_succ];omega
theorem z0z (c:Cel):∀l:List Trp,0<zpl c l↔(l.any fun o=>decide (o.c=c))=true
 | []=>by simp[zpl]
 | t::r=>by
  rw[zpl,List.any_cons]
  have:=z0z c r
  by_cases h:t.c=c
  ·simp[h];omega
  ·simp only[h,if_false,decide_false,Bool.false_or,Nat.zero_add];exact this
def CntM (ts:List Trp) (es:List (List Int × Int)):Prop:=∀x y:Int,zd6 [x,y] es=(zpl ⟨x,y⟩ ts:Int)
theorem CntM.add {ts:List Trp} {es:List (List Int × Int)} (h:CntM ts es) (t:Trp):CntM (ts ++ [t]) (zij [t.c.x,t.c.y] (zd6 [t.c.x,t.c.y] es+1) es):=by
 intro x y
 rw[zc1,zpb,zpl,zpl]
 obtain⟨i,o,kd,⟨cx,cy⟩,li,lo⟩:=t
 simp only
 by_cases e:x=cx∧y=cy
 ·obtain⟨rfl,rfl⟩:=e
  rw[if_pos rfl,if_pos rfl,h];omega
 ·rw[if_neg (by simpa using e),if_neg (fun he=>e (by cases he;exact⟨rfl,rfl⟩)),h];omega
theorem CntM.move {ts:List Trp} {es:List (List Int × Int)} (h:CntM ts es) {i:Nat} (hi:i<ts.length) (c:Cel) :
 CntM (ts.set i (zt2 (ts.getD i default) c)) (zij [c.x,c.y] (zd6 [c.x,c.y] (zij [(ts.getD i default).c.x,(ts.getD i default).c.y] (zd6 [(ts.getD i default).c.x,(ts.getD i default).c.y] es-1) es)+1) (zij [(ts.getD i default).c.x,(ts.getD i default).c.y] (zd6 [(ts.getD i default).c.x,(ts.getD i default).c.y] es-1) es)):=by
 intro x y
 have hs:=z0y ⟨x,y⟩ (zt2 (ts.getD i default) c) ts i hi
 obtain⟨cx,cy⟩:=c
 have e2:(zt2 (ts.getD i default) ⟨cx,cy⟩).c=⟨cx,cy⟩:=rfl
 rw[e2]at hs
 rcases ho:(ts.getD i default).c with ⟨ox,oy⟩
 rw[ho]at hs
 simp only at hs ⊢
 have k1:(([x,y]:List Int) = [cx,cy])=((⟨cx,cy⟩:Cel)=⟨x,y⟩):=by
  apply propext;constructor<;>intro h<;>cases h<;>rfl
 have k2:(([x,y]:List Int) = [ox,oy])=((⟨ox,oy⟩:Cel)=⟨x,y⟩):=by
  apply propext;constructor<;>intro h<;>cases h<;>rfl
 have k3:(([cx,cy]:List Int) = [ox,oy])=((⟨ox,oy⟩:Cel)=⟨cx,cy⟩):=by
  apply propext;constructor<;>intro h<;>cases h<;>rfl
 have h':∀x y:Int,zd6 [x,y] es=(zpl ⟨x,y⟩ ts:Int):=h
 rw[zc1,zc1,zc1]
 simp only[k1,k2,k3,h']
 by_cases a1:(⟨cx,cy⟩:Cel)=⟨x,y⟩
 ·have e3:x=cx∧y=cy:=by cases a1;exact⟨rfl,rfl⟩
  obtain⟨rfl,rfl⟩:=e3
  rw[if_pos rfl]at hs ⊢
  by_cases a2:(⟨ox,oy⟩:Cel)=⟨x,y⟩
  ·have e4:ox=x∧oy=y:=by cases a2;exact⟨rfl,rfl⟩
   obtain⟨rfl,rfl⟩:=e4
   rw[if_pos rfl]at hs ⊢;omega
  ·rw[if_neg a2]at hs
   rw[if_neg a2];omega
 ·rw[if_neg a1]at hs ⊢
  by_cases a2:(⟨ox,oy⟩:Cel)=⟨x,y⟩
  ·have e4:ox=x∧oy=y:=by cases a2;exact⟨rfl,rfl⟩
   obtain⟨rfl,rfl⟩:=e4
   rw[if_pos rfl]at hs ⊢;omega
  ·rw[if_neg a2]at hs ⊢;omega
abbrev ypr (g:Gop):AV := .agg [I .i64 g.id,I .i64 g.tw.x,I .i64 g.tw.y]
def z2x (t:Trp) (g:Gop):Bool:=decide (g.id=t.id)
theorem yi0 (ts:List Trp) (i:Nat) (hi:i<ts.length) (g:Gop):Spec Tryz.prog 191 [ypr g,.ptr 0 0 0] [.blk 259 [.ptr 1 i 0],.row 89 7 (ts.map zch)] (B (z2x (ts.getD i default) g)) [.blk 259 [.ptr 1 i 0],.row 89 7 (ts.map zch)]:=by
 refine spB Tryz.func191 11 [.tmp 3] Tryz.results191 ?_
 try refine xz2 (gd hi) zac ?_
 (try(refine⟨by kernel_rfl,?_⟩))
 try refine xz2 (gd hi) zac ?_
 refine zb9 [0,1] rfl rfl (by decide) ⟨?_,?_,trivial⟩ trivial ?_<;>simp(etaStruct := .none)only[push_cast,zad,seval,z2x]
theorem yjp (ts:List Trp) (i:Nat) (hi:i<ts.length)(l:List Gop) (hl:l.length≤1000000):Spec Tryz.prog 190 [.c (.sl 3 (l.map zio)),.clo (.func 191) [] [.ptr 0 0 0]] ([.blk 259 [.ptr 1 i 0],.row 89 7 (ts.map zch)]) (I .i64 (zg6 (z2x (ts.getD i default)) l)) ([.blk 259 [.ptr 1 i 0],.row 89 7 (ts.map zch)]):=by
 refine spB Tryz.func190 19 [.tmp 4] Tryz.results190 ?_
 try refine xst ?_
 refine zay (fun k:Nat=>⟨[(8,I .i64 k),(7,I .i64 l.length),(1,.clo (.func 191) [] [.ptr 0 0 0]),(0,.c (.sl 3 (l.map zio)))],[(0,.blk 259 [.ptr 1 i 0]),(1,.row 89 7 (ts.map zch))],2⟩) (fun k:Nat=>k≤l.length∧∀j (hj:j<l.length),j<k→(z2x (ts.getD i default)) l[j]=false) (fun k:Nat=>l.length-k) (0) (⟨Nat.zero_le _,fun j _ h=>absurd h (Nat.not_lt_zero _)⟩) (To.mk [0,1] rfl rfl (by decide) ?_ ?_) ?_
 ·exact xS
 ·exact xS
 rintro k ⟨hk,hno⟩
 try refine xst ?_
 refine cI (fun h1=>?_) fun h1=>?_
 ·have hlt:k<l.length:=by omega
  try refine xz2 (gd hlt) zb0 ?_
  refine caM [0,1] (yi0 ts i hi (l.getD k default)) ?_
  try refine xz2 (gd hlt) zb0 ?_
  refine cI (fun h2=>?_) fun h2=>?_
  ·have e:=zfw (z2x (ts.getD i default)) l k hlt (by rw[←zaq l k hlt];exact h2) hno
   rw[e]
   try refine xz2 (gd hlt) zb0 ?_
   refine zb9 [0,1] rfl rfl (by decide) ⟨?_,?_,trivial⟩ trivial ?_<;>exact xS
  ·have hno2:∀j (hj:j<l.length),j<k+1→(z2x (ts.getD i default)) l[j]=false:=fun j hj h=>by
    rcases Nat.lt_or_ge j k with h3|h3
    ·exact hno j hj h3
    ·obtain rfl:j=k:=by omega
     rw[←zaq l j hj];exact h2
   try refine xz2 (gd hlt) zb0 ?_
   refine⟨k+1,⟨by omega,hno2⟩,by omega,To.mk [0,1] rfl rfl (by decide) ?_ ?_⟩
   ·(try(refine xz2 (gd hlt) zb0 ?_;try exact xtI))
   ·(try(refine xz2 (gd hlt) zb0 ?_;try exact xtI))
 ·have e:=zer (z2x (ts.getD i default)) l (fun j hj=>hno j hj (by omega))
  rw[e]
  try refine xst ?_
  refine zb9 [0,1] rfl rfl (by decide) ⟨?_,?_,trivial⟩ trivial ?_<;>exact xS
theorem z0l {l:List Gop} {t:Trp} : (zmk l t.id=none∧zg6 (z2x t) l = -1)∨∃(g:Gop) (j:Nat),zmk l t.id=some g∧zg6 (z2x t) l=(j:Int)∧j<l.length∧l.getD j default=g:=by
 cases h:zmk l t.id with
 | none =>
  refine .inl ⟨rfl,?_⟩
  unfold zmk at h
  refine zer _ l fun j hj=>?_
  have:=List.find?_eq_none.1 h _ (List.getElem_mem hj)
  unfold z2x;simpa using this
 | some g =>
  unfold zmk at h
  obtain⟨j,h1,h2,h3⟩:=z6p (p:=z2x t) (l:=l) (x:=g) h
  exact .inr ⟨g,j,rfl,h1,h2,h3⟩
theorem zfg {f:Fld} {WR:Cel→List Int} {l:List Gop} {s:List Trp × List Int} {i:Nat} (h:zro f WR l s.1 (s.1.getD i default)=none):zd7 f WR l s i=s:=by unfold zd7;rw[h]
theorem zou {f:Fld} {WR:Cel→List Int} {l:List Gop} {s:List Trp × List Int} {i:Nat} {c:Cel} (h:zro f WR l s.1 (s.1.getD i default)=some c):zd7 f WR l s i=(s.1.set i (zt2 (s.1.getD i default) c),s.2 ++ [(s.1.getD i default).id]):=by unfold zd7;rw[h]
theorem zp4 {f:Fld} {WR:Cel→List Int} {l:List Gop} {ts:List Trp} {t:Trp} {g:Gop} (h:zmk l t.id=some g):zro f WR l ts t=if (z07 f WR t.c g.tw).length<2∨(ts.any fun o=>decide (o.c=(z07 f WR t.c g.tw).getD 1 default))=true then none else some ((z07 f WR t.c g.tw).getD 1 default):=by unfold zro;rw[h]
theorem yfh (w:Wld) (l:List Gop) (WR:Cel→List Int) (hWR:∀a,zbu w.f [a] (WR a)) (hl:w.f.p.length≤9223372036854775807) (hll:l.length≤1000) (hnt:w.troops.length≤100):Spec Tryz.prog 167 [.agg [I .i64 w.f.w,I .i64 w.f.h,.c (.sl 1 (w.f.p.map zao)),.c (.sl 2 (w.bases.map zbk)),.c (.sl 1 (w.stocks.map zao)),.c (.sl 1 (w.mines.map zao)),.own 0,I .i64 w.next,I .i64 w.now],.c (.sl 3 (l.map zio))] [.row 89 7 (w.troops.map zch)]
 (.c (.sl 1 ((zff w.f WR l w.troops).2.map zao))) [.row 89 7 ((zff w.f WR l w.troops).1.map zch)]:=by
 refine spB Tryz.func167 110 [.tmp 4] Tryz.results167 ?_
 try refine xy1 zav ?_
 refine zay (fun x:Nat × List (List Int × Int)=>⟨[(19,I .i64 x.1),(18,I .i64 w.troops.length),(17,.own 0),(5,.map 2),(2,.ptr 1 0 0),(1,.c (.sl 3 (l.map zio)))],[(0,.row 89 7 (w.troops.map zch)),(1,.blk 32 [I .i64 w.f.w,I .i64 w.f.h,.c (.sl 1 (w.f.p.map zao)),.c (.sl 2 (w.bases.map zbk)),.c (.sl 1 (w.stocks.map zao)),.c (.sl 1 (w.mines.map zao)),.own 0,I .i64 w.next,I .i64 w.now]),(2,.mp true 2 x.2)],3⟩) (fun x:Nat × List (List Int × Int)=>x.1≤w.troops.length∧CntM (w.troops.take x.1) x.2) (fun x:Nat × List (List Int × Int)=>w.troops.length-x.1) ((0,[])) (⟨Nat.zero_le _,fun _ _=>rfl⟩) (To.mk [0,1,2] rfl rfl (by decide) ?_ ?_) ?_
 ·exact xS
 ·exact xS
 rintro⟨k,es⟩ ⟨hk,hc⟩
 simp only at hk hc
 try refine xy1 zav ?_
 refine cI (fun h1=>?_) fun h1=>?_
 ·have hlt:k<w.troops.length:=by omega
  have hca:=hc.add (w.troops.getD k default)
  rw[←zak _ _ hlt]at hca
  have hcb:=hc (w.troops.getD k default).c.x (w.troops.getD k default).c.y
  have hcl:=zs6 ⟨(w.troops.getD k default).c.x,(w.troops.getD k default).c.y⟩ (w.troops.take k)
  rw[List.length_take]at hcl
  have hmp:=zop [(w.troops.getD k default).c.x,(w.troops.getD k default).c.y] es
  try refine xy3 zav (gd hlt) zac ?_
  refine zdc [some 23,some 24,some 25,some 26,some 27,some 28,some 29,none] rfl ?_
  intro Oq lq Rq hlq hdq hRq
  subst hlq
  iterate 8(refine zby fun rq hrq=>?_;(try(refine xy5 hdq zav (gd hlt) zac Qb0 ?_;try exact xtI));subst hrq)
  refine zv9 ?_
  subst hRq
  clear hdq Oq
  refine zv8 (by kernel_rfl) ?_
  try refine xy3 zav (gd hlt) zac ?_
  refine⟨(k+1,zij [(w.troops.getD k default).c.x,(w.troops.getD k default).c.y] (zd6 [(w.troops.getD k default).c.x,(w.troops.getD k default).c.y] es+1) es),⟨by simp only;omega,hca⟩,by simp only;omega,To.mk [0,1,2] rfl rfl (by decide) ?_ ?_⟩
  ·(try(refine xy3 zav (gd hlt) zac ?_;try exact xtI))
  ·(try(refine xy3 zav (gd hlt) zac ?_;try exact xtI))
 ·obtain rfl:k=w.troops.length:=by omega
  rw[List.take_length]at hc
  try refine xy1 zav ?_
  refine zay (fun x:Nat × List (List Int × Int)=>⟨[(34,I .i64 x.1),(33,I .i64 w.troops.length),(8,.own 3),(5,.map 2),(2,.ptr 1 0 0),(1,.c (.sl 3 (l.map zio)))],[(0,.row 89 7 ((zdr w.f WR l w.troops x.1).1.map zch)),(1,.blk 32 [I .i64 w.f.w,I .i64 w.f.h,.c (.sl 1 (w.f.p.map zao)),.c (.sl 2 (w.bases.map zbk)),.c (.sl 1 (w.stocks.map zao)),.c (.sl 1 (w.mines.map zao)),.own 0,I .i64 w.next,I .i64 w.now]),(2,.mp true 2 x.2),(3,.row 3 1 ((zdr w.f WR l w.troops x.1).2.map zao))],4⟩) (fun x:Nat × List (List Int × Int)=>x.1≤w.troops.length∧CntM (zdr w.f WR l w.troops x.1).1 x.2) (fun x:Nat × List (List Int × Int)=>w.troops.length-x.1) ((0,es)) (⟨Nat.zero_le _,hc⟩) ((To.nil 8 3 1 rfl).trans (To.mk [0,1,2,3] rfl rfl (by decide) ?_ ?_)) ?_
  ·exact xS2 zg2 Qb
  ·exact xS
  rintro⟨k,em⟩ ⟨hk,hm⟩
  simp only at hk hm
  have hln:=ze7 w.f WR l w.troops k
  have hsk:=zfh w.f WR l w.troops k
  obtain⟨S,hS⟩:∃S,S=zdr w.f WR l w.troops k:=⟨_,rfl⟩
  rw[←hS]at hm hln hsk
  try refine xy3 zav hS.symm hln.1 ?_
  refine cI (fun h2=>?_) fun h2=>?_
  ·have hlt:k<S.1.length:=by omega
   try refine xy5 zav hS.symm hln.1 (gd hlt) zac ?_
   refine caM [4,0] (yjp S.1 k hlt l (by omega)) ?_
   try refine xy5 zav hS.symm hln.1 (gd hlt) zac ?_
   refine cI (fun h3=>?_) fun h3=>?_
   ·have hnone:zmk l (S.1.getD k default).id=none:=by
     rcases z0l (l:=l) (t:=S.1.getD k default)with ⟨h,_⟩|⟨_,j,_,h,_⟩
     ·exact h
     ·rw[h]at h3;omega
    have hms:zd7 w.f WR l S k=S:=zfg (by unfold zro;rw[hnone])
    try refine xy5 zav hS.symm hln.1 (gd hlt) zac ?_
    refine⟨(k+1,em),⟨by simp only;omega,by simp only;rw[hsk,hms];exact hm⟩,by simp only;omega,To.mk [0,1,2,3] rfl rfl (by decide) ?_ ?_⟩
    ·(try(refine xz2 hsk hms ?_;try exact xtI))
    ·(try(refine xy5 zav hS.symm hln.1 (gd hlt) zac ?_;try exact xtI))
   ·obtain⟨g,j,hg,hj,hjl,hge⟩:∃(g:Gop) (j:Nat),zmk l (S.1.getD k default).id=some g∧zg6 (z2x (S.1.getD k default)) l=(j:Int)∧j<l.length∧l.getD j default=g:=by
     rcases z0l (l:=l) (t:=S.1.getD k default)with ⟨_,h⟩|h
     ·rw[h]at h3;omega
     ·exact h
    obtain⟨wl,hwl⟩:∃wl,wl=z07 w.f WR (S.1.getD k default).c g.tw:=⟨_,rfl⟩
    have hwy:(if zek (WR (S.1.getD k default).c) w.f (S.1.getD k default).c g.tw=0 then zmd (WR (S.1.getD k default).c) w.f (S.1.getD k default).c g.tw else [])=wl:=hwl.symm
    have hst:=zp4 (f:=w.f) (WR:=WR) (ts:=S.1) hg
    rw[←hwl]at hst
    rcases Nat.lt_or_ge wl.length 2 with hA|hB
    ·have hms:zd7 w.f WR l S k=S:=zfg (by rw[hst,if_pos (.inl hA)])
     have hAg:(wl.map zbk).getD 1 [] = []:=by rw[List.getD_eq_getElem?_getD,List.getElem?_eq_none (by rw[List.length_map];omega)];rfl
     have hAl:((wl.length:Int)<2)=True:=eq_true (by omega)
     try refine xy9 zav hS.symm hln.1 (gd hlt) zac hj (gd hjl) hge zb0 ?_
     refine zdc [some 47,some 48,some 49,some 50,some 51,some 52,some 53,some 54,some 55,some 56,some 57,some 58,some 46,some 59,some 60,some 61,some 12,some 13,some 14] rfl ?_
     intro Oq lq Rq hlq hdq hRq
     subst hlq
     iterate 11(refine zby fun rq hrq=>?_;(try(refine zdv hdq zav hS.symm hln.1 (gd hlt) zac hj (gd hjl) hge (And.intro zb0 Qb0) ?_;try exact xtI));subst hrq)
     refine zby fun rq hrq=>?_
     try refine zdv hdq zav hS.symm hln.1 (gd hlt) zac hj (gd hjl) hge (And.intro zb0 Qb0) ?_
     refine zv0 (zrx w.f (S.1.getD k default).c g.tw hl (WR (S.1.getD k default).c) (hWR _)) (WkL.refl _) ?_
     rw[hwy]
     try refine zdv hdq zav hS.symm hln.1 (gd hlt) zac hj (gd hjl) hge (And.intro zb0 Qb0) ?_
     subst hrq
     iterate 7(refine zby fun rq hrq=>?_;(try(refine zdv hdq zav hS.symm hln.1 (gd hlt) zac hj (gd hjl) hge (And.intro zb0 Qb0) ?_;try exact xtI));subst hrq)
     refine zv9 ?_
     subst hRq
     clear hdq Oq
     refine zv8 (by kernel_rfl) ?_
     iterate 2(try simp(etaStruct := .none)only[push_cast,seval,zav,←hS,hln.1,zae _ _ _ hlt,zch,hAg,hAl,List.take_nil,List.map_nil];try refine xsu ?_)
     refine zcd (fun h4=>?_) (fun h4=>?_)
     ·try refine xy0 ?_
      refine⟨(k+1,em),⟨by simp only;omega,by simp only;rw[hsk,hms];exact hm⟩,by simp only;omega,To.mk [0,1,2,3] rfl rfl (by decide) ?_ ?_⟩
      ·(try(refine xz2 hsk hms ?_;try exact xtI))
      ·(iterate 2((try simp(etaStruct := .none) (maxSteps:=1000000)only[push_cast,zad,seval]);(try(refine xsu ?_;try exact xtI))))
     ·simp at h4
    have hB1:1<wl.length:=by omega
    have hBl:((wl.length:Int)<2)=False:=eq_false (by omega)
    have hE0:zek (WR (S.1.getD k default).c) w.f (S.1.getD k default).c g.tw=0:=by
     rcases Decidable.em (zek (WR (S.1.getD k default).c) w.f (S.1.getD k default).c g.tw=0)with h|h
     ·exact h
     ·rw[hwl]at hB1;unfold z07 at hB1;rw[if_neg h]at hB1;simp at hB1
    have hcm:=hm (wl.getD 1 default).x (wl.getD 1 default).y
    have hcl:=zs6 ⟨(wl.getD 1 default).x,(wl.getD 1 default).y⟩ S.1
    have hanyc:=z0z ⟨(wl.getD 1 default).x,(wl.getD 1 default).y⟩ S.1
    try refine zdv zav hS.symm hln.1 (gd hlt) zac hj (gd hjl) hge zb0 (And.intro (gd hB1) (And.intro zag (And.intro hBl hE0))) ?_
    refine zdc [some 47,some 48,some 49,some 50,some 51,some 52,some 53,some 54,some 55,some 56,some 57,some 58,some 46,some 59,some 60,some 61,some 12,some 13,some 14] rfl ?_
    intro Oq lq Rq hlq hdq hRq
    subst hlq
    iterate 11(refine zby fun rq hrq=>?_;(try(refine zdv hdq zav hS.symm hln.1 (gd hlt) zac hj (gd hjl) hge (And.intro zb0 (And.intro (gd hB1) (And.intro zag (And.intro hBl (And.intro hE0 Qb0))))) ?_;try exact xtI));subst hrq)
    refine zby fun rq hrq=>?_
    try refine zdv hdq zav hS.symm hln.1 (gd hlt) zac hj (gd hjl) hge (And.intro zb0 (And.intro (gd hB1) (And.intro zag (And.intro hBl (And.intro hE0 Qb0))))) ?_
    refine caP (zrx w.f (S.1.getD k default).c g.tw hl (WR (S.1.getD k default).c) (hWR _)) ?_
    rw[hwy]
    try refine zdv hdq zav hS.symm hln.1 (gd hlt) zac hj (gd hjl) hge (And.intro zb0 (And.intro (gd hB1) (And.intro zag (And.intro hBl (And.intro hE0 Qb0))))) ?_
    subst hrq
    iterate 7(refine zby fun rq hrq=>?_;(try(refine zdv hdq zav hS.symm hln.1 (gd hlt) zac hj (gd hjl) hge (And.intro zb0 (And.intro (gd hB1) (And.intro zag (And.intro hBl (And.intro hE0 Qb0))))) ?_;try exact xtI));subst hrq)
    refine zv9 ?_
    subst hRq
    clear hdq Oq
    refine zv8 (by kernel_rfl) ?_
    try refine zdv zav hS.symm hln.1 (gd hlt) zac hj (gd hjl) hge zb0 (And.intro (gd hB1) (And.intro zag (And.intro hBl hE0))) ?_
    refine cI (fun h4=>?_) fun h4=>?_
    ·have hms:zd7 w.f WR l S k=S:=zfg (by rw[hst,if_pos (.inr (hanyc.1 (by omega)))])
     try refine zdv zav hS.symm hln.1 (gd hlt) zac hj (gd hjl) hge zb0 (And.intro (gd hB1) (And.intro zag (And.intro hBl hE0))) ?_
     refine⟨(k+1,em),⟨by simp only;omega,by simp only;rw[hsk,hms];exact hm⟩,by simp only;omega,To.mk [0,1,2,3] rfl rfl (by decide) ?_ ?_⟩
     ·(try(refine xz2 hsk hms ?_;try exact xtI))
     ·(try(refine zdv zav hS.symm hln.1 (gd hlt) zac hj (gd hjl) hge zb0 (And.intro (gd hB1) (And.intro zag (And.intro hBl hE0))) ?_;try exact xtI))
    ·have hno:¬(S.1.any fun o=>decide (o.c=(wl.getD 1 default)))=true:=fun h=>by have:=hanyc.2 h;omega
     have hms:zd7 w.f WR l S k=(S.1.set k (zt2 (S.1.getD k default) (wl.getD 1 default)),S.2 ++ [(S.1.getD k default).id]):=zou (by rw[hst,if_neg (fun h=>by rcases h with h|h;omega;exact hno h)])
     have hmv:=hm.move hlt (wl.getD 1 default)
     have hmp1:=zop [(S.1.getD k default).c.x,(S.1.getD k default).c.y] em
     have hc1:=hm (S.1.getD k default).c.x (S.1.getD k default).c.y
     have hcl1:=zs6 ⟨(S.1.getD k default).c.x,(S.1.getD k default).c.y⟩ S.1
     have hmp2:=zop [(wl.getD 1 default).x,(wl.getD 1 default).y] (zij [(S.1.getD k default).c.x,(S.1.getD k default).c.y] (zd6 [(S.1.getD k default).c.x,(S.1.getD k default).c.y] em-1) em)
     have hb2 : -1≤zd6 [(wl.getD 1 default).x,(wl.getD 1 default).y] (zij [(S.1.getD k default).c.x,(S.1.getD k default).c.y] (zd6 [(S.1.getD k default).c.x,(S.1.getD k default).c.y] em-1) em)∧zd6 [(wl.getD 1 default).x,(wl.getD 1 default).y] (zij [(S.1.getD k default).c.x,(S.1.getD k default).c.y] (zd6 [(S.1.getD k default).c.x,(S.1.getD k default).c.y] em-1) em)≤100:=by
      rw[zc1];split<;>omega
     have hgs:∀x:List PV,((S.1.map zch).set k x).getD k []=x:=fun x=>by
      rw[List.getD_eq_getElem?_getD,List.getElem?_set_self (by rw[List.length_map];exact hlt)];rfl
     iterate 2(try simp(etaStruct := .none)only[push_cast,seval,zav,←hS,hln.1,zae _ _ _ hlt,zch,hj,zae _ _ _ hjl,hge,zio,zae _ _ _ hB1,zbk,hBl,hE0,hgs,List.length_set,List.set_set];try refine xsu ?_)
     refine zdc [some 77,some 78,some 79,some 80,some 81,some 82,some 83,some 84,some 85,none] rfl ?_
     intro Oq lq Rq hlq hdq hRq
     subst hlq
     iterate 10(refine zby fun rq hrq=>?_;(iterate 2((try simp(etaStruct := .none)only[push_cast,seval,hdq,id,zav,←hS,hln.1,zae _ _ _ hlt,zch,hj,zae _ _ _ hjl,hge,zio,zae _ _ _ hB1,zbk,hBl,hE0,hgs,List.length_set,List.set_set]);(try(refine xsu ?_;try exact xtI))));subst hrq)
     refine zv9 ?_
     subst hRq
     clear hdq Oq
     refine zv8 (by kernel_rfl) ?_
     iterate 2(try simp(etaStruct := .none)only[push_cast,seval,zav,←hS,hln.1,zae _ _ _ hlt,zch,hj,zae _ _ _ hjl,hge,zio,zae _ _ _ hB1,zbk,hBl,hE0,hgs,List.length_set,List.set_set];try refine xsu ?_)
     refine zdc [some 86,some 87,some 88,some 89,some 90,some 91,none] rfl ?_
     intro Oq lq Rq hlq hdq hRq
     subst hlq
     iterate 7(refine zby fun rq hrq=>?_;(iterate 2((try simp(etaStruct := .none)only[push_cast,seval,hdq,id,zav,←hS,hln.1,zae _ _ _ hlt,zch,hj,zae _ _ _ hjl,hge,zio,zae _ _ _ hB1,zbk,hBl,hE0,hgs,List.length_set,List.set_set]);(try(refine xsu ?_;try exact xtI))));subst hrq)
     refine zv9 ?_
     subst hRq
     clear hdq Oq
     refine zv8 (by kernel_rfl) ?_
     iterate 2(try simp(etaStruct := .none)only[push_cast,seval,zav,←hS,hln.1,zae _ _ _ hlt,zch,hj,zae _ _ _ hjl,hge,zio,zae _ _ _ hB1,zbk,hBl,hE0,hgs,List.length_set,List.set_set];try refine xsu ?_)
     refine zdc [some 92,some 93,some 94,some 95,some 96,some 97,some 98,some 99,some 100,none] rfl ?_
     intro Oq lq Rq hlq hdq hRq
     subst hlq
     iterate 10(refine zby fun rq hrq=>?_;(iterate 2((try simp(etaStruct := .none)only[push_cast,seval,hdq,id,zav,←hS,hln.1,zae _ _ _ hlt,zch,hj,zae _ _ _ hjl,hge,zio,zae _ _ _ hB1,zbk,hBl,hE0,hgs,List.length_set,List.set_set]);(try(refine xsu ?_;try exact xtI))));subst hrq)
     refine zv9 ?_
     subst hRq
     clear hdq Oq
     refine zv8 (by kernel_rfl) ?_
     iterate 2(try simp(etaStruct := .none)only[push_cast,seval,zav,←hS,hln.1,zae _ _ _ hlt,zch,hj,zae _ _ _ hjl,hge,zio,zae _ _ _ hB1,zbk,hBl,hE0,hgs,List.length_set,List.set_set];try refine xsu ?_)
     refine⟨(k+1,zij [(wl.getD 1 default).x,(wl.getD 1 default).y] (zd6 [(wl.getD 1 default).x,(wl.getD 1 default).y] (zij [(S.1.getD k default).c.x,(S.1.getD k default).c.y] (zd6 [(S.1.getD k default).c.x,(S.1.getD k default).c.y] em-1) em)+1) (zij [(S.1.getD k default).c.x,(S.1.getD k default).c.y] (zd6 [(S.1.getD k default).c.x,(S.1.getD k default).c.y] em-1) em)),⟨by simp only;omega,by simp only;rw[hsk,hms];exact hmv⟩,by simp only;omega,To.mk [0,1,2,190] rfl rfl (by decide) ?_ ?_⟩
     ·(try(refine xz6 hsk hms zac ycs zab QB5 ?_;try exact xtI))
     ·(iterate 2((try simp(etaStruct := .none)only[push_cast,seval,zav,←hS,hln.1,zae _ _ _ hlt,zch,hj,zae _ _ _ hjl,hge,zio,zae _ _ _ hB1,zbk,hBl,hE0,hgs,List.length_set,List.set_set]);(try(refine xsu ?_;try exact xtI))))
  ·obtain rfl:k=w.troops.length:=by omega
   have hmv:zff w.f WR l w.troops=S:=hS.symm
   try refine xy3 zav hS.symm hln.1 ?_
   refine zb9 [0] rfl rfl (by decide) ⟨?_,trivial⟩ trivial ?_<;>simp(etaStruct := .none)only[push_cast,zad,seval,hmv]
structure Right (w : Wld) : Prop where
 f:zbl w.f=0
 nb:w.bases.length≤8
 nt:w.troops.length≤100
 sl:w.stocks.length=w.bases.length
 ml:w.mines.length=w.f.p.length
 nx:1≤w.next∧w.next≤1000000
 nw:0≤w.now∧w.now≤1000000
 base:∀i,i<w.bases.length→zca w.f (w.bases.getD i default)=true∧(0≤w.stocks.getD i default∧w.stocks.getD i default≤1000000)∧∀j,j<i→w.bases.getD j default≠w.bases.getD i default
 mine:∀i,i<w.mines.length→(0≤w.mines.getD i default∧w.mines.getD i default≤1000000)∧(w.mines.getD i default=0∨w.f.p.getD i default=3)
 trp:∀k,k<w.troops.length→TrpOk w (w.troops.getD k default)
 ord:∀j k,j<k→k<w.troops.length→(w.troops.getD j default).id<(w.troops.getD k default).id∧(w.troops.getD j default).c≠(w.troops.getD k default).c
theorem zdz {w:Wld} (h:zap w=0):Right w:=by
 obtain⟨h1,h2,h3,h4,h5⟩:=zcr h
 obtain⟨g1,g2,g3,g4⟩:=ztn h4
 unfold zgb at h5
 simp only[bJ]at h5
 obtain⟨⟨b1,b2⟩,b3⟩:=h5
 rw[zb5]at b1 b2 b3
 refine⟨h1,h2,h3,g1,g2,g3,g4,fun i hi=>?_,fun i hi=>?_,fun k hk=>(zgt h hk).1,fun j k hjk hk=>?_⟩
 ·have:=b1 i hi
  unfold zi6 at this
  simp only[bJ,within_iff]at this
  obtain⟨⟨a1,a2⟩,a3⟩:=this
  rw[zb5]at a3
  exact⟨a1,a2,fun j hj=>by have:=a3 j hj;simpa using this⟩
 ·have:=b2 i hi
  unfold zli at this
  simp only[bJ,Bool.or_eq_true,within_iff,decide_eq_true_eq]at this
  exact this
 ·have h6:=(zgt h hk).2
  unfold z3q at h6
  have:=(zb5 _ _).1 h6 j hjk
  simp only[bJ,decide_eq_true_eq,Bool.not_eq_true',decide_eq_false_iff_not]at this
  exact this
theorem Right.e {w:Wld} (h:Right w):zap w=0:=by
 have hb:¬(8<w.bases.length∨100<w.troops.length):=by have:=h.nb;have:=h.nt;omega
 refine zne h.f hb ?_ ?_
 ·unfold zhd
  rw[decide_eq_true h.sl,decide_eq_true h.ml,(within_iff).2 h.nx,(within_iff).2 h.nw];rfl
 ·unfold zgb
  rw[bJ,bJ,zb5,zb5,zb5]
  refine⟨⟨fun i hi=>?_,fun i hi=>?_⟩,fun i hi=>?_⟩
  ·obtain⟨a1,a2,a3⟩:=h.base i hi
   unfold zi6
   rw[a1,(within_iff).2 a2,Bool.true_and,Bool.true_and,zb5]
   intro j hj
   rw[decide_eq_false (a3 j hj)];rfl
  ·obtain⟨a1,a2⟩:=h.mine i hi
   unfold zli
   rw[(within_iff).2 a1,Bool.true_and,Bool.or_eq_true,decide_eq_true_eq,decide_eq_true_eq];exact a2
  ·have ok:=h.trp i hi
   unfold zdx z80 z3q
   rw[(within_iff).2 (by rcases ok.kind with e|e<;>omega),(within_iff).2 ok.id,(within_iff).2 ok.owner,ok.at_,(within_iff).2 ok.life,(within_iff).2 ok.load,Bool.true_and,Bool.true_and,Bool.true_and,Bool.true_and,Bool.true_and,Bool.true_and,zb5]
   intro j hj
   obtain⟨c1,c2⟩:=h.ord j i hj hi
   rw[decide_eq_true c1,decide_eq_false c2];rfl
theorem Right.l {w:Wld} (h:Right w):zd4 w:=by
 obtain⟨⟨f1,f2⟩,⟨f3,f4⟩,f5,f6⟩:=za4 h.f
 have hm:w.f.w*w.f.h≤40*40:=Int.mul_le_mul f2 f4 (by omega) (by omega)
 have a1:=h.nb;have a2:=h.nt;have a3:=h.sl;have a4:=h.ml
 unfold zd4;omega
theorem Right.places {w:Wld} (h:Right w):w.f.p.length≤1600:=by
 obtain⟨⟨f1,f2⟩,⟨f3,f4⟩,f5,f6⟩:=za4 h.f
 have hm:w.f.w*w.f.h≤40*40:=Int.mul_le_mul f2 f4 (by omega) (by omega)
 omega
theorem zj8 {w:Wld} {t:Trp} (hk:t.kind=1∨t.kind=2) (hi:1≤t.id∧t.id≤w.next-1) (ho:0≤t.owner∧t.owner≤(w.bases.length:Int)-1) (hg:zca w.f t.c=true) (hl:1≤t.life∧t.life≤(zbx t.kind).life) (hd:0≤t.load∧t.load≤5*(2-t.kind)):TrpOk w t:=by
 have h:=inF_iff.1 (ground_iff.1 hg).1
 exact⟨hk,hi,ho,hg,h.1,h.2,hl,hd⟩
theorem zks {α : Type} [Inhabited α] {l:List α} {i:Nat} (v : α) (p:Nat) (hi:i<l.length):(l.set i v).getD p default=if p=i then v else l.getD p default:=by
 by_cases h:p=i
 ·subst h;rw[if_pos rfl,zaq _ _ (by simpa using hi)];simp
 ·rw[if_neg h]
  simp only[List.getD_eq_getElem?_getD,List.getElem?_set,if_neg (Ne.symm h)]
theorem zmn {α : Type} [Inhabited α] (l:List α) (i:Nat) (hi:i<l.length):l.set i (l.getD i default)=l:=by
 refine List.ext_getElem (by simp) fun j h1 h2=>?_
 rw[List.getElem_set]
 split
 ·rename_i h;subst h;rw[zaq _ _ hi]
 ·rfl
theorem zua {w:Wld} (h:Right w) (l:List Blw) (hb:∀id,0≤zfj w l id):Right (zhs w l):=by
 have hsub:(zkn w l).length≤w.troops.length:=by
  have:=List.length_filter_le (fun t:Trp=>decide (0<t.life)) (w.troops.map (zej w l))
  rw[List.length_map]at this;exact this
 have hp:(zkn w l).Pairwise fun a b=>a.id<b.id∧a.c≠b.c:=by
  refine List.Pairwise.filter _ ?_
  rw[List.pairwise_map,List.pairwise_iff_getElem]
  intro i j hi hj hij
  have:=h.ord i j hij hj
  rw[zaq _ _ hi,zaq _ _ hj]at this
  exact this
 refine⟨h.f,h.nb,Nat.le_trans hsub h.nt,h.sl,h.ml,h.nx,h.nw,h.base,h.mine,fun k hk=>?_,fun j k hjk hk=>?_⟩
 ·have hk':k<(zkn w l).length:=hk
  have hm:=zax _ _ hk'
  obtain⟨h1,h2⟩:=List.mem_filter.1 hm
  obtain⟨t,ht,e⟩:=List.mem_map.1 h1
  obtain⟨q,hq,e2⟩:=mem_getD.1 ht
  have ok:=h.trp q hq
  rw[e2]at ok
  change TrpOk (zhs w l) ((zkn w l).getD k default)
  rw[←e]at h2 ⊢
  rw[decide_eq_true_eq]at h2
  have hh:=hb t.id
  have hlf:=ok.life
  refine zj8 ok.kind ok.id ok.owner ok.at_ ⟨by omega,?_⟩ ok.load
  change t.life-zfj w l t.id≤(zbx t.kind).life
  omega
 ·have hj:j<(zkn w l).length:=Nat.lt_trans hjk hk
  have:=List.pairwise_iff_getElem.1 hp j k hj hk hjk
  change ((zkn w l).getD j default).id<((zkn w l).getD k default).id∧((zkn w l).getD j default).c≠((zkn w l).getD k default).c
  rw[zaq (zkn w l) _ hj,zaq (zkn w l) _ hk];exact this
def z2v (w:Wld) (ts:List Trp):Wld:={ w with troops:=ts }
abbrev yk9 (w:Wld) (t:AV):List AV := [I .i64 w.f.w,I .i64 w.f.h,.c (.sl 1 (w.f.p.map zao)),.c (.sl 2 (w.bases.map zbk)),.c (.sl 1 (w.stocks.map zao)),.c (.sl 1 (w.mines.map zao)),t,I .i64 w.next,I .i64 w.now]
theorem yiz (w:Wld) (hb:w.f.p.length≤1600∧w.bases.length≤8∧w.stocks.length≤8∧w.mines.length≤1600∧w.troops.length≤100):Spec Tryz.prog 166 [zcf w] [] (.agg (yk9 w (.own 0))) [.row 89 7 (w.troops.map zch)]:=by
 refine spB Tryz.func166 26 [.cell 2 32] Tryz.results166 ?_
 try refine xst ?_
 refine caM [] (zbm w.f.p (by omega)) ?_
 try refine xst ?_
 refine caM [] (zk3 w.bases (by omega)) ?_
 try refine xst ?_
 refine caM [] (zbm w.stocks (by omega)) ?_
 try refine xst ?_
 (try(refine⟨by kernel_rfl,?_⟩))
 try refine xst ?_
 refine caM [] (zbm w.mines (by omega)) ?_
 try refine xst ?_
 refine caM [] (zcl w.troops (by omega)) ?_
 try refine xst ?_
 (try(refine⟨by kernel_rfl,?_⟩))
 try refine xst ?_
 refine zb9 [63] rfl rfl (by decide) ⟨?_,trivial⟩ ⟨rfl,trivial⟩ (Wk.of ?_)
 ·exact xS
 ·first|rfl|kernel_rfl
def znu (w:Wld) (l:List Gop):Int:=if zap w≠0 then zap w else if 200<l.length then 2 else 0
theorem z4t {w:Wld} (hw:Right w):w.f.p.length≤1600∧w.bases.length≤8∧w.stocks.length≤8∧w.mines.length≤1600∧w.troops.length≤100:=by
 have hfo:=za4 hw.f
 have hm2:w.f.w*w.f.h≤40*40:=Int.mul_le_mul hfo.1.2 hfo.2.1.2 (by omega) (by omega)
 have h1:=hw.nb
 have h2:=hw.sl
 have h3:=hw.ml
 have h4:=hw.nt
 omega
theorem yas (w:Wld) (l:List Gop) (WR:Cel→List Int) (hWR:∀a,zbu w.f [a] (WR a)) (hl:zd4 w) (hll:l.length≤9223372036854775807):Spec Tryz.prog 126 [zcf w,.c (.sl 3 (l.map zio))] [] (.tup [zcf (if znu w l=0 then z2v w (zff w.f WR l w.troops).1 else default),.c (.sl 1 ((if znu w l=0 then (zff w.f WR l w.troops).2 else []).map zao)),I .i64 (znu w l)]) []:=by
 refine spB Tryz.func126 26 [.cell 4 32,.tmp 5,.tmp 6] Tryz.results126 ?_
 try refine xst ?_
 refine caP (zeh w hl) ?_
 try refine xst ?_
 refine cI (fun h1=>?_) fun h1=>?_
 ·have e:znu w l=zap w:=by unfold znu;rw[if_pos h1]
  rw[e,if_neg h1,if_neg h1]
  try refine xst ?_
  exact xrz rfl
 ·have hw:=zdz h1
  try refine xst ?_
  refine cI (fun h2=>?_) fun h2=>?_
  ·have e:znu w l=2:=by unfold znu;rw[if_neg (by simp[h1]),if_pos (by omega)]
   rw[e,if_neg (by decide),if_neg (by decide)]
   try refine xst ?_
   exact xrz rfl
  ·have e:znu w l=0:=by unfold znu;rw[if_neg (by simp[h1]),if_neg (by omega)]
   rw[e,if_pos rfl,if_pos rfl]
   have hb:=z4t hw
   try refine xst ?_
   refine caM [] (yiz w hb) ?_
   try refine xst ?_
   refine caM [2] (yfh w l WR hWR (by omega) (by omega) (by omega)) ?_
   try refine xst ?_
   refine zfm rfl (by repeat' (first|exact trivial|exact rfl|refine⟨?_,?_⟩)) (Wk.of ?_)
   first|rfl|kernel_rfl
end Go.Proofs.YtgggemkjaccbhaaGreatDoor
