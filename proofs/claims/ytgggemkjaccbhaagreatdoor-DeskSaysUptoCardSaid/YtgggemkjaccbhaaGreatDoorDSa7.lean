/- Lemmas for the proof of deskSays.proved. -/
import Derived.Test.YtgggemkjaccbhaaGreatDoorDSa6
import Derived.Lib.ItoaLen
namespace Go.Proofs.YtgggemkjaccbhaaGreatDoor
set_option linter.all false
open Go.RowKit
set_option maxRecDepth 100000
set_option maxHeartbeats 4000000
theorem znf {f:Fld} {a b:Cel} {R:List Int} {W H:Nat} (s:Srch f a b R W H) (hf:zbl f=0) (ha:inF f a=true) (hpa:zar f a≠1):∀(N:Nat) (c:Cel),inF f c=true→0≤R.getD (zaw f c) default→∀x∈zpm R f a N c,zca f x=true
 | 0,c,_,_,x,hx=>by unfold zpm at hx;cases hx
 | N+1,c,hc,h0,x,hx=>by
  unfold zpm at hx
  by_cases hca:c=a
  ·rw[if_pos hca]at hx;cases hx
  ·rw[if_neg hca]at hx
   obtain⟨_,_,h3,_,h5,_⟩:=zur s.w s.h s.w0 hf s.l s.r ha hc hca h0
   rcases List.mem_cons.1 hx with e|hx
   ·rw[e,ground_iff]
    refine⟨h3,?_⟩
    obtain⟨en,hnL⟩:=zbz s.w s.h s.w0 hf h3
    rcases s.r.why _ hnL h5 with ⟨w1,_⟩|⟨_,_,_,hr,_⟩
    ·rw[List.mem_singleton]at w1
     have epl:∀n,zar f n=f.p.getD (zaw f n) default:=fun _=>rfl
     rw[epl,w1];exact hpa
    ·exact hr
   ·exact znf s hf ha hpa N _ h3 h5 x hx
theorem zwh {f:Fld} {WR:Cel→List Int} (hWR:∀a,zbu f [a] (WR a)) {a b x:Cel} (hx:x∈z07 f WR a b):zca f x=true:=by
 unfold z07 at hx
 by_cases he:zek (WR a) f a b=0
 ·rw[if_pos he]at hx
  unfold zek at he
  by_cases hf:zbl f=0
  ·rw[if_neg (by simpa using hf)]at he
   by_cases hi:inF f a=true∧inF f b=true
   ·rw[if_neg (by simpa using hi)]at he
    by_cases hp:zar f a=1∨zar f b=1
    ·rw[if_pos hp]at he;exact absurd he (by decide)
    ·rw[if_neg hp]at he
     by_cases hr:(WR a).getD (zaw f b) default<0
     ·rw[if_pos hr]at he;exact absurd he (by decide)
     ·have hpa:zar f a≠1:=fun h=>hp (Or.inl h)
      have hpb:zar f b≠1:=fun h=>hp (Or.inr h)
      obtain⟨W,H,s⟩:=yeb (b:=b) hf hi.1 hpa (hWR a)
      unfold zmd at hx
      rw[List.mem_reverse]at hx
      rcases List.mem_cons.1 hx with e|hx
      ·rw[e];exact ground_iff.2 ⟨hi.2,hpb⟩
      ·exact znf s hf hi.1 hpa _ b hi.2 (by omega) x hx
   ·rw[if_pos hi]at he;exact absurd he (by decide)
  ·rw[if_pos hf]at he;exact absurd he hf
 ·rw[if_neg he]at hx;cases hx
theorem ztz {f:Fld} {WR:Cel→List Int} (hWR:∀a,zbu f [a] (WR a)) {l:List Gop} {ts:List Trp} {t:Trp} {c:Cel} (h:zro f WR l ts t=some c):zca f c=true∧(ts.any fun o=>decide (o.c=c))=false:=by
 unfold zro at h
 split at h
 ·cases h
 ·rename_i g _
  split at h
  ·cases h
  ·rename_i hn
   cases h
   have h1:1<(z07 f WR t.c g.tw).length:=by omega
   refine⟨zwh hWR (zax _ _ h1),?_⟩
   cases e:ts.any fun o=>decide (o.c=(z07 f WR t.c g.tw).getD 1 default)with
   | false=>rfl
   | true=>exact absurd (Or.inr e) hn
theorem z1j {w:Wld} (h:Right w) {i:Nat} (hi:i<w.troops.length) {c:Cel} (hg:zca w.f c=true) (hn:(w.troops.any fun o=>decide (o.c=c))=false):Right (z2v w (w.troops.set i (zt2 (w.troops.getD i default) c))):=by
 have G:=fun p=>zks (zt2 (w.troops.getD i default) c) p hi
 have hno:∀k,k<w.troops.length→(w.troops.getD k default).c≠c:=fun k hk e=>by
  have:=List.any_eq_false.1 hn _ (zax _ _ hk)
  rw[e]at this;simp at this
 refine⟨h.f,h.nb,by simpa[z2v]using h.nt,h.sl,h.ml,h.nx,h.nw,h.base,h.mine,fun k hk=>?_,fun j k hjk hk=>?_⟩
 ·have hk':k<w.troops.length:=by simpa[z2v]using hk
  have e:∀t,TrpOk w t→TrpOk (z2v w (w.troops.set i (zt2 (w.troops.getD i default) c))) t:=fun t ht=>⟨ht.kind,ht.id,ht.owner,ht.at_,ht.x,ht.y,ht.life,ht.load⟩
  have G':=G k
  change TrpOk _ ((w.troops.set i (zt2 (w.troops.getD i default) c)).getD k default)
  rw[G']
  split
  ·have ok:=h.trp i hi
   exact e _ (zj8 ok.kind ok.id ok.owner hg ok.life ok.load)
  ·exact e _ (h.trp k hk')
 ·have hk':k<w.troops.length:=by simpa[z2v]using hk
  have hj':j<w.troops.length:=Nat.lt_trans hjk hk'
  have:=h.ord j k hjk hk'
  change ((w.troops.set i (zt2 (w.troops.getD i default) c)).getD j default).id<((w.troops.set i (zt2 (w.troops.getD i default) c)).getD k default).id∧((w.troops.set i (zt2 (w.troops.getD i default) c)).getD j default).c≠((w.troops.set i (zt2 (w.troops.getD i default) c)).getD k default).c
  rw[G j,G k]
  by_cases e1:j=i
  ·have e2:k≠i:=by omega
   rw[if_pos e1,if_neg e2]
   subst e1
   exact⟨this.1,fun e=>hno k hk' e.symm⟩
  ·rw[if_neg e1]
   by_cases e2:k=i
   ·rw[if_pos e2]
    subst e2
    exact⟨this.1,fun e=>hno j hj' e⟩
   ·rw[if_neg e2];exact this
theorem zl8 {w:Wld} (h:Right w) {WR:Cel→List Int} (hWR:∀a,zbu w.f [a] (WR a)) (l:List Gop):∀k,k≤w.troops.length→Right (z2v w (zdr w.f WR l w.troops k).1)
 | 0,_=>by rw[zg2];exact h
 | k+1,hk=>by
  have ih:=zl8 h hWR l k (by omega)
  have hlen:=(ze7 w.f WR l w.troops k).1
  rw[zfh]
  unfold zd7
  split
  ·exact ih
  ·rename_i c hs
   obtain⟨g1,g2⟩:=ztz hWR hs
   exact z1j ih (i:=k) (by change k<(zdr w.f WR l w.troops k).1.length;omega) g1 g2
theorem zrt {w:Wld} (h:Right w) {WR:Cel→List Int} (hWR:∀a,zbu w.f [a] (WR a)) (l:List Gop):Right (z2v w (zff w.f WR l w.troops).1):=zl8 h hWR l _ (Nat.le_refl _)
structure HitInv (w : Wld) (m : List Blw) (harm : List Int) (done : List Bool) : Prop where
 l1:harm.length=w.troops.length
 l2:done.length=w.troops.length
 val:∀j,j<w.troops.length→harm.getD j default=zfj w m (w.troops.getD j default).id
 low:∀j,j<w.troops.length→0≤harm.getD j default∧harm.getD j default≤4*m.length
 did:∀j,j<w.troops.length→done.getD j default=m.any (zjd w (w.troops.getD j default))
theorem HitInv.start (w:Wld):HitInv w [] (List.replicate w.troops.length 0) (List.replicate w.troops.length false):=by
 have g:∀j,j<w.troops.length→(List.replicate w.troops.length (0:Int)).getD j default=0:=fun j hj=>by rw[zaq _ _ (by simpa using hj)];simp
 have g2:∀j,j<w.troops.length→(List.replicate w.troops.length false).getD j default=false:=fun j hj=>by rw[zaq _ _ (by simpa using hj)];simp
 exact⟨by simp,by simp,fun j hj=>by rw[g j hj,z0a],fun j hj=>by rw[g j hj];simp,fun j hj=>by rw[g2 j hj];rfl⟩
theorem HitInv.skip {w:Wld} (hu:Ups w) {m:List Blw} {harm:List Int} {done:List Bool} (h:HitInv w m harm done) (b:Blw) (hs:zk4 w b=false∨∃i,i<w.troops.length∧(w.troops.getD i default).id=b.by_∧done.getD i default=true):HitInv w (m ++ [b]) harm done:=by
 have hs':zk4 w b=false∨∃i,i<w.troops.length∧(w.troops.getD i default).id=b.by_∧m.any (zjd w (w.troops.getD i default))=true:=by
  rcases hs with hs|⟨i,hi,e,hd⟩
  ·exact .inl hs
  ·exact .inr ⟨i,hi,e,by rw[←h.did i hi];exact hd⟩
 refine⟨h.l1,h.l2,fun j hj=>by rw[z63 hu _ _ _ hs'];exact h.val j hj,fun j hj=>?_,fun j hj=>?_⟩
 ·have:=h.low j hj
  rw[List.length_append];simp only[List.length_cons,List.length_nil];omega
 ·rw[List.any_append,h.did j hj]
  simp only[List.any_cons,List.any_nil,Bool.or_false]
  cases hp:zjd w (w.troops.getD j default) b with
  | false=>rw[Bool.or_false]
  | true =>
   rw[Bool.or_true]
   unfold zjd at hp
   simp only[bJ,decide_eq_true_eq]at hp
   rcases hs' with hs|⟨i,hi,e,hd⟩
   ·rw[hs]at hp;simp at hp
   ·by_cases hij:i=j
    ·subst hij;exact hd
    ·exact absurd (e.trans hp.1) (hu.ne hi hj hij)
theorem HitInv.go {w:Wld} (hu:Ups w) {m:List Blw} {harm:List Int} {done:List Bool} (h:HitInv w m harm done) {b:Blw} (hb:zk4 w b=true) {i j:Nat} (hi:i<w.troops.length) (hj:j<w.troops.length) (ei:(w.troops.getD i default).id=b.by_) (ej:(w.troops.getD j default).id=b.at_) (hd:done.getD i default=false) :
 HitInv w (m ++ [b]) (harm.set j (harm.getD j default+(zbx (w.troops.getD i default).kind).load)) (done.set i true):=by
 have hn:m.any (zjd w (w.troops.getD i default))=false:=by rw[←h.did i hi];exact hd
 have hk:=zko (w.troops.getD i default).kind
 refine⟨by rw[List.length_set];exact h.l1,by rw[List.length_set];exact h.l2,fun q hq=>?_,fun q hq=>?_,fun q hq=>?_⟩
 ·rw[yh9 _ _ (by rw[h.l1];exact hj),z62 hu _ _ _ hb hi ei hn]
  by_cases e:q=j
  ·subst e
   rw[if_pos rfl,if_pos ej.symm,h.val q hq]
  ·rw[if_neg e,if_neg (fun e2=>hu.ne hq hj e (e2.symm.trans ej.symm)),h.val q hq,Int.add_zero]
 ·rw[yh9 _ _ (by rw[h.l1];exact hj),List.length_append]
  have h1:=h.low q hq
  have h2:=h.low j hj
  simp only[List.length_cons,List.length_nil]
  split<;>omega
 ·rw[ymp _ _ (by rw[h.l2];exact hi),List.any_append]
  simp only[List.any_cons,List.any_nil,Bool.or_false]
  by_cases e:q=i
  ·subst e
   rw[if_pos rfl,show zjd w (w.troops.getD q default) b=true by unfold zjd;rw[hb,ei];simp,Bool.or_true]
  ·rw[if_neg e,h.did q hq,show zjd w (w.troops.getD q default) b=false by
    unfold zjd;rw[decide_eq_false (fun e2=>hu.ne hq hi e (e2.symm.trans ei.symm))];rfl,Bool.or_false]
section
variable {w : Wld} {b : Blw} {i j : Nat} {p q : Bool}
theorem yca (h1:p=(zcc w b.by_).isSome) (h2:(zcc w b.by_).isSome=true→(w.troops.getD i default).id=b.by_∧(zcc w b.by_).getD ztk=w.troops.getD i default)
 (h3:q=(zcc w b.at_).isSome) (h4:(zcc w b.at_).isSome=true→(w.troops.getD j default).id=b.at_∧(zcc w b.at_).getD ztk=w.troops.getD j default) (hp:p=true) (hq:q=true) (hc:countB w (w.troops.getD i default) (w.troops.getD j default)=true) :
 zk4 w b=true∧(w.troops.getD i default).id=b.by_∧(w.troops.getD j default).id=b.at_:=by
 rw[hp]at h1;rw[hq]at h3
 have a:=h2 h1.symm
 have c:=h4 h3.symm
 refine⟨?_,a.1,c.1⟩
 unfold zk4;rw[←h1,←h3,a.2,c.2,hc];rfl
theorem yhc {done:List Bool} (hi:i<w.troops.length) (h1:p=(zcc w b.by_).isSome) (h2:(zcc w b.by_).isSome=true→(w.troops.getD i default).id=b.by_∧(zcc w b.by_).getD ztk=w.troops.getD i default)
 (h3:q=(zcc w b.at_).isSome) (h4:(zcc w b.at_).isSome=true→(w.troops.getD j default).id=b.at_∧(zcc w b.at_).getD ztk=w.troops.getD j default) (h:((p=false∨q=false)∨done.getD i default=true)∨countB w (w.troops.getD i default) (w.troops.getD j default)=false) :
 zk4 w b=false∨∃i,i<w.troops.length∧(w.troops.getD i default).id=b.by_∧done.getD i default=true:=by
 unfold zk4
 rw[←h1,←h3]
 cases p with
 | false=>exact .inl rfl
 | true =>
  cases q with
  | false=>exact .inl rfl
  | true =>
   have a:=h2 h1.symm
   have c:=h4 h3.symm
   rw[a.2,c.2]
   rcases h with (h|h)|h
   ·simp at h
   ·exact .inr ⟨i,hi,a.1,h⟩
   ·exact .inl (by rw[h];rfl)
end
theorem yg9 (w:Wld) (l:List Blw) (hl:zd4 w) (hw:zap w=0) (hll:l.length≤200) (ht:0<w.troops.length):Spec Tryz.prog 164 [zcf w,.c (.sl 2 (l.map zi5))] [] (.tup [.c (.sl 1 ((zju w l).map zao)),I .i64 (zcs w l)]) []:=by
 have e:zcs w l=0:=by unfold zcs;rw[if_neg (by simp[hw]),if_neg (by omega)]
 have hu:=yh3 hw
 obtain⟨w1,w2,w3,w4,w5⟩:=zcr hw
 refine spB Tryz.func164 120 [.tmp 4,.tmp 5] Tryz.results164 ?_
 try refine xst ?_
 refine caP (zeh w hl) ?_
 try refine xst ?_
 refine cI (fun h1=>?_) fun h1=>?_
 ·exact absurd hw h1
 ·try refine xst ?_
  refine cI (fun h2=>?_) fun h2=>?_
  ·omega
  ·try refine xst ?_
   refine zay (fun x:Nat × List (List Int × Int)=>⟨[(32,I .i64 x.1),(31,I .i64 w.troops.length),(30,.c (.sl 7 (w.troops.map zch))),(7,.map 1),(2,.ptr 0 0 0),(1,.c (.sl 2 (l.map zi5)))],[(0,.blk 32 (zhe w)),(1,.mp false 1 x.2)],2⟩) (fun x:Nat × List (List Int × Int)=>x.1≤w.troops.length∧IdxM w x.1 x.2) (fun x:Nat × List (List Int × Int)=>w.troops.length-x.1) ((0,[])) (⟨Nat.zero_le _,fun i=>rfl,fun j h=>absurd h (Nat.not_lt_zero _)⟩) (To.mk [0,1] rfl rfl (by decide) ?_ ?_) ?_
   ·exact xS
   ·exact xS
   rintro⟨k,es⟩ ⟨hk,hn⟩
   simp only at hk hn
   try refine xst ?_
   refine cI (fun h3=>?_) fun h3=>?_
   ·have hlt:k<w.troops.length:=by omega
    try refine xz2 (gd hlt) zac ?_
    refine⟨(k+1,zij [(w.troops.getD k default).id] (k:Int) es),⟨by simp only;omega,hn.step hu hlt⟩,by simp only;omega,To.mk [0,1] rfl rfl (by decide) ?_ ?_⟩
    ·(try(refine xz2 (gd hlt) zac ?_;try exact xtI))
    ·(try(refine xz2 (gd hlt) zac ?_;try exact xtI))
   ·obtain rfl:k=w.troops.length:=by omega
    have hget:=hn.get ht
    try refine xst ?_
    refine zay (fun x:Nat × List Int × List Bool=>⟨[(52,I .i64 x.1),(51,I .i64 l.length),(50,.c (.sl 2 (l.map zi5))),(11,.own 3),(10,.own 2),(7,.map 1),(2,.ptr 0 0 0)],[(0,.blk 32 (zhe w)),(1,.mp false 1 es),(2,.row 3 1 (x.2.1.map zao)),(3,.row 4 1 (x.2.2.map zf9))],4⟩) (fun x:Nat × List Int × List Bool=>x.1≤l.length∧HitInv w (l.take x.1) x.2.1 x.2.2) (fun x:Nat × List Int × List Bool=>l.length-x.1) ((0,List.replicate w.troops.length 0,List.replicate w.troops.length false)) (⟨Nat.zero_le _,HitInv.start w⟩) (To.mk [0,1,2,3] rfl rfl (by decide) ?_ ?_) ?_
    ·simp(etaStruct := .none)only[push_cast,zad,seval,List.map_replicate,List.length_replicate,zao,zf9]
    ·exact xS
    rintro⟨k,harm,done⟩ ⟨hk,hinv⟩
    simp only at hk hinv
    have hl1:=hinv.l1
    have hl2:=hinv.l2
    try refine xst ?_
    refine cI (fun h4=>?_) fun h4=>?_
    ·have hlt:k<l.length:=by omega
     obtain⟨b,hb⟩:∃b,b=l.getD k default:=⟨_,rfl⟩
     obtain⟨i,hi,gi,mi1,mi2⟩:=hget b.by_
     obtain⟨j,hj,gj,mj1,mj2⟩:=hget b.at_
     have hid:i<done.length:=by omega
     have hjh:j<harm.length:=by omega
     have htk:l.take (k+1)=l.take k ++ [b]:=by rw[zak _ _ hlt,hb]
     have hlow:=hinv.low j hj
     have hkh:=zko (w.troops.getD i default).kind
     rw[List.length_take]at hlow
     try refine ze1 (gd hlt) hb.symm zcu gi gj (gd hid) (gd hi) (gd hj) (gd hjh) (And.intro zac (And.intro zbg zab)) ?_
     refine gcP (fun hcc=>yb0 w (w.troops.getD i default) (w.troops.getD j default) hl hw (zax _ _ hi) (zax _ _ hj)) ?_
     try refine ze1 (gd hlt) hb.symm zcu gi gj (gd hid) (gd hi) (gd hj) (gd hjh) (And.intro zac (And.intro zbg zab)) ?_
     (try(refine⟨by kernel_rfl,?_⟩))
     try refine ze1 (gd hlt) hb.symm zcu gi gj (gd hid) (gd hi) (gd hj) (gd hjh) (And.intro zac (And.intro zbg zab)) ?_
     refine cI (fun h5=>?_) fun h5=>?_
     ·have hnx:=hinv.skip hu b (yhc hi mi1 mi2 mj1 mj2 h5)
      rw[←htk]at hnx
      try refine ze1 (gd hlt) hb.symm zcu gi gj (gd hid) (gd hi) (gd hj) (gd hjh) (And.intro zac (And.intro zbg zab)) ?_
      refine⟨(k+1,harm,done),⟨by simp only;omega,hnx⟩,by simp only;omega,To.mk [0,1,2,3] rfl rfl (by decide) ?_ ?_⟩
      ·(try(refine ze1 (gd hlt) hb.symm zcu gi gj (gd hid) (gd hi) (gd hj) (gd hjh) (And.intro zac (And.intro zbg zab)) ?_;try exact xtI))
      ·(try(refine ze1 (gd hlt) hb.symm zcu gi gj (gd hid) (gd hi) (gd hj) (gd hjh) (And.intro zac (And.intro zbg zab)) ?_;try exact xtI))
     ·obtain⟨y1,y2,y3⟩:=yca mi1 mi2 mj1 mj2 h5.1.1.1 h5.1.1.2 h5.2
      have hnx:=hinv.go hu y1 hi hj y2 y3 h5.1.2
      rw[←htk]at hnx
      try refine ze1 (gd hlt) hb.symm zcu gi gj (gd hid) (gd hi) (gd hj) (gd hjh) (And.intro zac (And.intro zbg zab)) ?_
      refine caP (zf2 (w.troops.getD i default).kind) ?_
      try refine ze1 (gd hlt) hb.symm zcu gi gj (gd hid) (gd hi) (gd hj) (gd hjh) (And.intro zac (And.intro zbg zab)) ?_
      (try(refine⟨by kernel_rfl,?_⟩))
      try refine ze1 (gd hlt) hb.symm zcu gi gj (gd hid) (gd hi) (gd hj) (gd hjh) (And.intro zac (And.intro zbg zab)) ?_
      refine⟨(k+1,harm.set j (harm.getD j default+(zbx (w.troops.getD i default).kind).load),done.set i true),⟨by simp only;omega,hnx⟩,by simp only;omega,To.mk [0,1,2,3] rfl rfl (by decide) ?_ ?_⟩
      ·(try(refine xz3 zab zbg Qr ?_;try exact xtI))
      ·(try(refine ze1 (gd hlt) hb.symm zcu gi gj (gd hid) (gd hi) (gd hj) (gd hjh) (And.intro zac (And.intro zbg zab)) ?_;try exact xtI))
    ·obtain rfl:k=l.length:=by omega
     rw[List.take_length]at hinv
     have e2:zju w l=harm:=by unfold zju;rw[if_pos e];exact(ybh hl1 hinv.val).symm
     try refine xst ?_
     exact znb e e2 rfl
theorem yha (w:Wld) (l:List Blw) (hl:zd4 w) (hw:zap w=0) (hll:l.length≤200) (ht:w.troops = []):Spec Tryz.prog 164 [zcf w,.c (.sl 2 (l.map zi5))] [] (.tup [.c (.sl 1 ((zju w l).map zao)),I .i64 (zcs w l)]) []:=by
 have e:zcs w l=0:=by unfold zcs;rw[if_neg (by simp[hw]),if_neg (by omega)]
 have e2:zju w l = []:=by unfold zju zsr;rw[if_pos e,ht];rfl
 obtain⟨wf,wb,ws,wm,wt,wn,wo⟩:=w
 simp only at ht
 subst ht
 obtain⟨w,hwd⟩:∃w:Wld,w=⟨wf,wb,ws,wm,[],wn,wo⟩:=⟨_,rfl⟩
 refine spB Tryz.func164 120 [.tmp 4,.tmp 5] Tryz.results164 ?_
 try refine xz1 Qg ?_
 refine caP (zeh _ hl) ?_
 try refine xz1 Qg ?_
 refine cI (fun h1=>?_) fun h1=>?_
 ·exact absurd hw h1
 ·try refine xz1 Qg ?_
  refine cI (fun h2=>?_) fun h2=>?_
  ·omega
  ·try refine xz1 Qg ?_
   refine zay (fun _u:Unit=>⟨[(32,I .i64 0),(31,I .i64 0),(30,.c (.sl 7 [])),(7,.map 1),(2,.ptr 0 0 0),(1,.c (.sl 2 (l.map zi5)))],[(0,.blk 32 (zhe ⟨wf,wb,ws,wm,[],wn,wo⟩)),(1,.mp false 1 [])],2⟩) (fun _u:Unit=>Tr) (fun _u:Unit=>0) (()) (trI) (To.mk [0,1] rfl rfl (by decide) ?_ ?_) ?_
   ·exact xS
   ·exact xS
   rintro _ _
   try refine xz1 Qg ?_
   refine cI (fun h3=>?_) fun h3=>?_
   ·simp at h3
   ·try refine xz1 Qg ?_
    refine zay (fun k:Nat=>⟨[(52,I .i64 k),(51,I .i64 l.length),(50,.c (.sl 2 (l.map zi5))),(11,.own 3),(10,.own 2),(7,.map 1),(2,.ptr 0 0 0)],[(0,.blk 32 (zhe ⟨wf,wb,ws,wm,[],wn,wo⟩)),(1,.mp false 1 []),(2,.row 3 1 []),(3,.row 4 1 [])],4⟩) (fun k:Nat=>k≤l.length) (fun k:Nat=>l.length-k) (0) (Nat.zero_le _) (To.mk [0,1,2,3] rfl rfl (by decide) ?_ ?_) ?_
    ·exact xS
    ·exact xS
    rintro k hk
    try refine xz1 Qg ?_
    refine cI (fun h4=>?_) fun h4=>?_
    ·have hlt:k<l.length:=by omega
     try refine xz3 (gd hlt) zcu Qg ?_
     repeat(with_reducible refine And.intro ?_ ?_;· (simp[zsa];done))
     refine zh5 ?_ ?_
     ·simp[zsa]
     try refine xz3 (gd hlt) zcu Qg ?_
     (try(refine⟨by kernel_rfl,?_⟩))
     try refine xz3 (gd hlt) zcu Qg ?_
     refine cI (fun h5=>?_) fun h5=>?_
     ·try refine xz3 (gd hlt) zcu Qg ?_
      refine⟨k+1,by omega,by omega,To.mk [0,1,2,3] rfl rfl (by decide) ?_ ?_⟩
      ·(try(refine xz3 (gd hlt) zcu Qg ?_;try exact xtI))
      ·(try(refine xz3 (gd hlt) zcu Qg ?_;try exact xtI))
     ·simp[zsa]at h5
    ·try refine xz1 Qg ?_
     exact znb e e2 rfl
abbrev ynt (b:Blw):AV := .agg [I .i64 b.by_,I .i64 b.at_]
theorem z0k {w:Wld} (hw:zap w=0) (n:Int):0≤((zcc w n).getD ztk).c.x∧((zcc w n).getD ztk).c.x≤40∧0≤((zcc w n).getD ztk).c.y∧((zcc w n).getD ztk).c.y≤40∧((zcc w n).isSome=true→(zcc w n).getD ztk∈w.troops):=by
 cases h:(zcc w n).isSome with
 | false =>
  have:zcc w n=none:=by cases hf:zcc w n;rfl;rw[hf]at h;simp at h
  rw[this];simp[ztk]
 | true =>
  obtain⟨i,hi,_,e⟩:=zq0 h
  have hm:=zax w.troops i hi
  have ok:=zgc hw hm
  have hx:=ok.x;have hy:=ok.y
  have:=za4 (zcr hw).1
  rw[e]
  exact⟨hx.1,by omega,hy.1,by omega,fun _=>hm⟩
theorem zo0 (a b:Cel):(if (a.x-b.x).natAbs<(a.y-b.y).natAbs then ((a.y-b.y).natAbs:Int)else ((a.x-b.x).natAbs:Int))=(zxe a b:Int):=by
 unfold zxe;split<;>omega
theorem yhb (w:Wld) (b:Blw) (hl:zd4 w) (hw:zap w=0):Spec Tryz.prog 138 [zcf w,ynt b] [] (B (zk4 w b)) []:=by
 have hf:=(zcr hw).1
 obtain⟨x,hx⟩:∃x,x=(zcc w b.by_).getD ztk:=⟨_,rfl⟩
 obtain⟨y,hy⟩:∃y,y=(zcc w b.at_).getD ztk:=⟨_,rfl⟩
 obtain⟨p,hp⟩:∃p,p=(zcc w b.by_).isSome:=⟨_,rfl⟩
 obtain⟨q,hq⟩:∃q,q=(zcc w b.at_).isSome:=⟨_,rfl⟩
 have fx:=z0k hw b.by_
 have fy:=z0k hw b.at_
 have e:zk4 w b=(p&&q&&countB w x y):=by unfold zk4;rw[←hp,←hq,←hx,←hy]
 rw[←hx,←hp]at fx
 rw[←hy,←hq]at fy
 have kx:p=true→x.kind=1∨x.kind=2:=fun h=>(zgc hw (fx.2.2.2.2 h)).kind
 have ix:p=true→inF w.f x.c=true:=fun h=>(ground_iff.1 (zgc hw (fx.2.2.2.2 h)).at_).1
 have iy:q=true→inF w.f y.c=true:=fun h=>(ground_iff.1 (zgc hw (fy.2.2.2.2 h)).at_).1
 refine spB Tryz.func138 65 [.tmp 4] Tryz.results138 ?_
 try refine xz4 hx.symm hy.symm hp.symm hq.symm ?_
 refine caP (znn w b.by_ hl) ?_
 try refine xz4 hx.symm hy.symm hp.symm hq.symm ?_
 refine caP (znn w b.at_ hl) ?_
 try refine xz4 hx.symm hy.symm hp.symm hq.symm ?_
 refine gcP (fun hcc=>zps x.c.x y.c.x (by omega) (by omega)) ?_
 try refine xz4 hx.symm hy.symm hp.symm hq.symm ?_
 refine gcP (fun hcc=>zps x.c.y y.c.y (by omega) (by omega)) ?_
 try refine xz4 hx.symm hy.symm hp.symm hq.symm ?_
 refine gcP (fun hcc=>zg4 x.kind (kx (by simp at hcc;exact hcc.1.1))) ?_
 try refine xz4 hx.symm hy.symm hp.symm hq.symm ?_
 refine gcP (fun hcc=>z6g w.f x.c y.c hf (ix (by simp at hcc;exact hcc.1.1.1)) (iy (by simp at hcc;exact hcc.1.1.2))) ?_
 try refine xz4 hx.symm hy.symm hp.symm hq.symm ?_
 (try(refine⟨by kernel_rfl,?_⟩))
 try refine xz4 hx.symm hy.symm hp.symm hq.symm ?_
 clear hx hy hp hq fx fy kx ix iy
 (first|(refine zi1 rfl (Wk.of ?_);(try simp(etaStruct := .none)only[push_cast,zad,seval]);first|done|(simp[e,countB,zo0,Bool.and_assoc, *];done)|(simp_all[e,countB,zo0,Bool.and_assoc];done))|(refine zi1 rfl ?_;(try simp(etaStruct := .none)only[push_cast,zad,seval]);(try simp[e,countB,zo0,Bool.and_assoc, *]);(try exact wkc)))
abbrev ydw (w:Wld):List PV := [pI w.f.w,pI w.f.h,.sl 1 (w.f.p.map zao),.sl 2 (w.bases.map zbk),.sl 1 (w.stocks.map zao),.sl 1 (w.mines.map zao),.sl 7 (w.troops.map zch),pI w.next,pI w.now]
abbrev yd7 (t:Trp):List PV := [pI t.id,pI t.owner,pI t.kind,pI t.c.x,pI t.c.y,pI t.life,pI t.load]
theorem z6z (w:Wld) (t:Trp) (b:Blw) (hl:zd4 w) (hw:zap w=0):Spec Tryz.prog 137 ([] ++ [ynt b] ++ [.fel 7 [yd7 t] 0 0,.fel 9 [ydw w] 0 0]) [] (B (zjd w t b)) []:=by
 refine spB Tryz.func137 15 [.tmp 4] Tryz.results137 ?_
 try refine xst ?_
 refine gcP (fun hcc=>yhb w b hl hw) ?_
 try refine xst ?_
 exact zcw yjg rfl
theorem ydm (F:FuncId) (a b:List AV) (l:List Blw) (p:Blw→Bool) (hl:l.length≤9223372036854775807) (hp:∀n∈l,Spec Tryz.prog F (a ++ [ynt n]++b) [] (B (p n)) []) (ha:∀h,cvL [] h a=a) (hb:∀h,cvL [] h b=b) :
 Spec Tryz.prog 136 [.c (.sl 2 (l.map zi5)),.clo (.func F) a b] [] (I .i64 (zg6 p l)) []:=by
 refine spB Tryz.func136 19 [.tmp 4] Tryz.results136 ?_
 simp(etaStruct := .none)only[push_cast,zad,seval]
 refine zay (fun k:Nat=>⟨[(8,I .i64 k),(7,I .i64 l.length),(0,.c (.sl 2 (l.map zi5))),(1,.clo (.func F) a b)],[],0⟩) (fun k=>k≤l.length∧∀j (hj:j<l.length),j<k→p l[j]=false) (fun k=>l.length-k) 0 ⟨Nat.zero_le _,fun j _ h=>by omega⟩ (To.mk [] rfl rfl List.nodup_nil trivial ?_) ?_
 ·exact xS2 ha hb
 ·rintro k ⟨hk,hn⟩
  simp(etaStruct := .none)only[push_cast,zad,seval]
  refine zcd (fun h=>?_) (fun h=>?_)
  ·have hlt:k<l.length:=by simpa using h
   simp(etaStruct := .none)only[push_cast,zad,seval,zsu _ _ _ hlt,zi5]
   repeat with_reducible refine obA ?_
   refine zv0 (hp _ (List.getElem_mem hlt)) (by simp only[ziv,ha,hb,cvL,cv];exact WkL.refl _) ?_
   simp(etaStruct := .none)only[push_cast,zad,seval]
   refine zcd (fun h=>?_) (fun h=>?_)
   ·simp(etaStruct := .none)only[push_cast,zad,seval]
    exact zfm rfl trivial (Wk.of (by rw[zfw p l k hlt h hn];rfl))
   ·simp(etaStruct := .none)only[push_cast,zad,seval]
    refine⟨k+1,⟨by omega,fun j hj hjk=>?_⟩,by omega,To.mk [] rfl rfl List.nodup_nil trivial ?_⟩
    ·by_cases e:j=k
     ·subst e;exact h
     ·exact hn j hj (by omega)
    ·simp(etaStruct := .none)only[push_cast,zad,seval,ha,hb]
     simp(disch:=omega)only[zaj,za1,tdv,tmd]
  ·have hge:k=l.length:=by simp at h;omega
   subst hge
   simp(etaStruct := .none)only[push_cast,zad,seval]
   exact zfm rfl trivial (Wk.of (by rw[zer p l (fun j hj=>hn j hj hj)];rfl))
theorem ygb (w:Wld) (l:List Blw) (id:Int) (k:Nat) (h:k<w.troops.length):zrk ((w.troops.take (k+1)).map (zpj w l id))=zrk ((w.troops.take k).map (zpj w l id))+zpj w l id (w.troops.getD k default):=by
 rw[zak _ _ h,List.map_append,List.map_cons,List.map_nil,z3u]
theorem ynf (w:Wld) (l:List Blw) (id:Int) (t:Trp):0≤zpj w l id t∧zpj w l id t≤4:=by
 have:=zko t.kind
 unfold zpj
 split
 ·split<;>omega
 ·omega
theorem yd9 (w:Wld) (l:List Blw) (id:Int):∀ts:List Trp,0≤zrk (ts.map (zpj w l id))∧zrk (ts.map (zpj w l id))≤4*ts.length
 | []=>by simp[zrk]
 | t::r=>by
  have h1:=yd9 w l id r
  have h2:=ynf w l id t
  simp only[zrk,List.map_cons,List.sum_cons,List.length_cons]at *
  omega
theorem yjh (w:Wld) (l:List Blw) (id:Int) (hl:zd4 w) (hw:zap w=0) (hll:l.length≤200) (hpos:0<l.length):Spec Tryz.prog 94 [zcf w,.c (.sl 2 (l.map zi5)),I .i64 id] [] (I .i64 (zfj w l id)) []:=by
 have w3:=(zcr hw).2.2.1
 refine spB Tryz.func94 40 [.tmp 6] Tryz.results94 ?_
 try refine xst ?_
 refine zay (fun k:Nat=>⟨[(14,I .i64 k),(13,I .i64 w.troops.length),(12,.c (.sl 7 (w.troops.map zch))),(7,I .i64 (zrk ((w.troops.take k).map (zpj w l id)))),(3,.ptr 0 0 0),(2,I .i64 id),(1,.c (.sl 2 (l.map zi5)))],[(0,.blk 32 (zhe w))],1⟩) (fun k:Nat=>k≤w.troops.length) (fun k:Nat=>w.troops.length-k) (0) (Nat.zero_le _) (To.mk [0] rfl rfl (by decide) ?_ ?_) ?_
 ·exact xS
 ·simp(etaStruct := .none)only[push_cast,zad,seval,List.take_zero,List.map_nil,zrk,List.sum_nil]
 rintro k hk
 have hsb:=yd9 w l id (w.troops.take k)
 rw[List.length_take]at hsb
 try refine xst ?_
 refine cI (fun h1=>?_) fun h1=>?_
 ·have hlt:k<w.troops.length:=by omega
  have hst:=ygb w l id k hlt
  obtain⟨i,hi,gi,hc⟩:∃i:Nat,i<l.length∧(zg6 (zjd w (w.troops.getD k default)) l).toNat=i∧zpj w l id (w.troops.getD k default)=if 0≤zg6 (zjd w (w.troops.getD k default)) l∧(l.getD i default).at_=id then (zbx (w.troops.getD k default).kind).load else 0:=by
   rcases z6q (zjd w (w.troops.getD k default)) l with ⟨i,hi,e1,e2⟩|⟨e1,e2⟩
   ·refine⟨i,hi,by rw[e1];rfl,?_⟩
    unfold zpj
    rw[e2,e1]
    by_cases h:(l.getD i default).at_=id
    ·rw[if_pos ⟨by omega,h⟩];simp only;rw[if_pos h]
    ·rw[if_neg (fun h2=>h h2.2)];simp only;rw[if_neg h]
   ·refine⟨0,hpos,by rw[e1];rfl,?_⟩
    unfold zpj
    rw[e2,e1,if_neg (fun h=>by omega)]
  obtain⟨ig1,ig2⟩:=yf4 (zjd w (w.troops.getD k default)) l
  have hkh:=zko (w.troops.getD k default).kind
  have hko:=(zgt hw hlt).1.kind
  try refine xz5 (gd hlt) zac gi (gd hi) zcu ?_
  refine zc0 (ydm _ [] [.fel 7 [yd7 (w.troops.getD k default)] 0 0,.fel 9 [ydw w] 0 0] l (zjd w (w.troops.getD k default)) (by omega) (fun b _=>z6z w _ b hl hw) (fun _=>rfl) (fun _=>rfl)) (WkL.refl _) rfl ?_
  try refine xz5 (gd hlt) zac gi (gd hi) zcu ?_
  refine cI (fun h2=>?_) fun h2=>?_
  ·rw[if_pos h2]at hc
   try refine xz5 (gd hlt) zac gi (gd hi) zcu ?_
   refine caP (zg4 (w.troops.getD k default).kind hko) ?_
   try refine xz5 (gd hlt) zac gi (gd hi) zcu ?_
   refine⟨k+1,by omega,by omega,To.mk [0] rfl rfl (by decide) ?_ ?_⟩
   ·(try(refine xz3 hst hc Int.add_zero ?_;try exact xtI))
   ·(try(refine xz3 hst hc Int.add_zero ?_;try exact xtI))
  ·rw[if_neg (fun h=>by rcases h2 with h3|h3;omega;exact h3 h.2)]at hc
   try refine xz5 (gd hlt) zac gi (gd hi) zcu ?_
   refine⟨k+1,by omega,by omega,To.mk [0] rfl rfl (by decide) ?_ ?_⟩
   ·(try(refine xz3 hst hc Int.add_zero ?_;try exact xtI))
   ·(try(refine xz3 hst hc Int.add_zero ?_;try exact xtI))
 ·obtain rfl:k=w.troops.length:=by omega
  have e:zfj w l id=zrk ((w.troops.take w.troops.length).map (zpj w l id)):=by rw[List.take_length];rfl
  try refine xst ?_
  exact zcw e rfl
theorem ygg (w:Wld) (id:Int) (hl:zd4 w) (hw:zap w=0):Spec Tryz.prog 94 [zcf w,.c (.sl 2 []),I .i64 id] [] (I .i64 0) []:=by
 have w3:=(zcr hw).2.2.1
 refine spB Tryz.func94 40 [.tmp 6] Tryz.results94 ?_
 try refine xst ?_
 refine zay (fun k:Nat=>⟨[(14,I .i64 k),(13,I .i64 w.troops.length),(12,.c (.sl 7 (w.troops.map zch))),(7,I .i64 0),(3,.ptr 0 0 0),(2,I .i64 id),(1,.c (.sl 2 []))],[(0,.blk 32 (zhe w))],1⟩) (fun k:Nat=>k≤w.troops.length) (fun k:Nat=>w.troops.length-k) (0) (Nat.zero_le _) (To.mk [0] rfl rfl (by decide) ?_ ?_) ?_
 ·exact xS
 ·exact xS
 rintro k hk
 try refine xst ?_
 refine cI (fun h1=>?_) fun h1=>?_
 ·have hlt:k<w.troops.length:=by omega
  have hz:zg6 (zjd w (w.troops.getD k default)) ([]:List Blw) = -1:=rfl
  try refine xz3 (gd hlt) zac Qg ?_
  refine zc0 (ydm _ [] [.fel 7 [yd7 (w.troops.getD k default)] 0 0,.fel 9 [ydw w] 0 0] [] (zjd w (w.troops.getD k default)) (by simp) (fun b _=>z6z w _ b hl hw) (fun _=>rfl) (fun _=>rfl)) (WkL.refl _) rfl ?_
  try refine xz3 (gd hlt) zac Qg ?_
  repeat(with_reducible refine And.intro ?_ ?_;· (simp[hz];done))
  refine cI (fun h2=>?_) fun h2=>?_
  ·exact absurd h2 (by decide)
  ·try refine xz3 (gd hlt) zac Qg ?_
   refine⟨k+1,by omega,by omega,To.mk [0] rfl rfl (by decide) ?_ ?_⟩
   ·(try(refine xz3 (gd hlt) zac Qg ?_;try exact xtI))
   ·(try(refine xz3 (gd hlt) zac Qg ?_;try exact xtI))
 ·skip
  try refine xst ?_
  exact xrz rfl
theorem yji (w:Wld) (l:List Blw) (id:Int) (hl:zd4 w) (hw:zap w=0) (hll:l.length≤200):Spec Tryz.prog 94 [zcf w,.c (.sl 2 (l.map zi5)),I .i64 id] [] (I .i64 (zfj w l id)) []:=by
 cases l with
 | nil=>rw[z0a];exact ygg w id hl hw
 | cons a r=>exact yjh w (a::r) id hl hw hll (by simp)
theorem ybg (w:Wld) (l:List Blw) (hl:zd4 w) (hll:l.length≤9223372036854775807):Spec Tryz.prog 164 [zcf w,.c (.sl 2 (l.map zi5))] [] (.tup [.c (.sl 1 ((zju w l).map zao)),I .i64 (zcs w l)]) []:=by
 by_cases h:zcs w l=0
 ·have h1:zap w=0:=by unfold zcs at h;split at h;rename_i h1;exact absurd h h1;rename_i h1;simpa using h1
  have h2:l.length≤200:=by unfold zcs at h;rw[if_neg (by simp[h1])]at h;split at h;simp at h;omega
  rcases Nat.eq_zero_or_pos w.troops.length with h3|h3
  ·exact yha w l hl h1 h2 (List.eq_nil_of_length_eq_zero h3)
  ·exact yg9 w l hl h1 h2 h3
 ·exact yg8 w l hl hll h
theorem yje (w:Wld) (hw:zap w=0):Spec Tryz.prog 165 [zcf w] [] (zcf w) []:=by
 obtain⟨w1,w2,w3,w4,w5⟩:=zcr hw
 obtain⟨v1,v2,v3,v4⟩:=ztn w4
 obtain⟨⟨f1,f2⟩,⟨f3,f4⟩,f5,f6⟩:=za4 w1
 have hm:w.f.w*w.f.h≤40*40:=Int.mul_le_mul f2 f4 (by omega) (by omega)
 refine spB Tryz.func165 26 [.cell 2 32] Tryz.results165 ?_
 try refine xst ?_
 refine caP (zm5 w.f.p (by omega)) ?_
 try refine xst ?_
 refine caP (z01 w.bases (by omega)) ?_
 try refine xst ?_
 refine caP (zm5 w.stocks (by omega)) ?_
 try refine xst ?_
 (try(refine⟨by kernel_rfl,?_⟩))
 try refine xst ?_
 refine caP (zm5 w.mines (by omega)) ?_
 try refine xst ?_
 refine caP (z9d w.troops (by omega)) ?_
 try refine xst ?_
 (try(refine⟨by kernel_rfl,?_⟩))
 try refine xst ?_
 exact xrz rfl
def yon:Wld:=⟨⟨0,0,[]⟩,[],[],[],[],0,0⟩
def zoz (w:Wld) (l:List Blw) (k:Nat):List Trp:=((w.troops.take k).map (zej w l)).filter fun t=>decide (0<t.life)
theorem yna (w:Wld) (l:List Blw) (k:Nat):zoz w l k=(((w.troops.take k).map (zej w l)).filter fun t=>decide (0<t.life):List Trp):=rfl
def zmj (w:Wld) (l:List Blw) (k:Nat):List Int:=(((w.troops.take k).map (zej w l)).filter fun t => !decide (0<t.life)).map (·.id)
theorem yng (w:Wld) (l:List Blw) (k:Nat):zmj w l k=((((w.troops.take k).map (zej w l)).filter fun t => !decide (0<t.life)).map (·.id):List Int):=rfl
theorem zqv (w:Wld) (l:List Blw) {k:Nat} (h:k<w.troops.length):zoz w l (k+1)=zoz w l k++(if 0<(zej w l (w.troops.getD k default)).life then [zej w l (w.troops.getD k default)]else []):=by
 unfold zoz
 rw[zak _ _ h,List.map_append,List.filter_append,List.map_cons,List.map_nil,List.filter_cons,List.filter_nil]
 simp only[decide_eq_true_eq]
theorem zqx (w:Wld) (l:List Blw) {k:Nat} (h:k<w.troops.length):zmj w l (k+1)=zmj w l k++(if 0<(zej w l (w.troops.getD k default)).life then []else [(w.troops.getD k default).id]):=by
 unfold zmj
 rw[zak _ _ h,List.map_append,List.filter_append,List.map_cons,List.map_nil,List.filter_cons,List.filter_nil,List.map_append]
 by_cases h2:0<(zej w l (w.troops.getD k default)).life
 ·rw[if_pos h2,decide_eq_true h2];simp
 ·rw[if_neg h2,decide_eq_false h2];simp[zej]
theorem zu9 (w:Wld) (l:List Blw) (k:Nat):(zoz w l k).length≤k:=by
 have h1:=List.length_filter_le (fun t:Trp=>decide (0<t.life)) ((w.troops.take k).map (zej w l))
 rw[List.length_map,List.length_take]at h1
 exact Nat.le_trans h1 (Nat.min_le_left _ _)
theorem zvj (w:Wld) (l:List Blw) (k:Nat):(zmj w l k).length≤k:=by
 unfold zmj
 rw[List.length_map]
 have h1:=List.length_filter_le (fun t:Trp => !decide (0<t.life)) ((w.troops.take k).map (zej w l))
 rw[List.length_map,List.length_take]at h1
 exact Nat.le_trans h1 (Nat.min_le_left _ _)
theorem zva (w:Wld) (l:List Blw):zoz w l w.troops.length=zkn w l:=by unfold zoz;rw[List.take_length];rfl
theorem zvk (w:Wld) (l:List Blw):zmj w l w.troops.length=zvi w l:=by unfold zmj;rw[List.take_length];rfl
theorem zxl (w:Wld) (l:List Blw) (id:Int):0≤zfj w l id∧zfj w l id≤4*w.troops.length:=yd9 w l id w.troops
def zns (w:Wld) (l:List Blw):Wld:=if zcs w l=0 then zhs w l else yon
def z7c (w:Wld) (l:List Blw):List Int:=if zcs w l=0 then zvi w l else []
theorem yc6 {w:Wld} (hw:zap w=0) {k:Nat} (h:k<w.troops.length):1≤(w.troops.getD k default).life∧(w.troops.getD k default).life≤20:=by
 have h1:=(zgt hw h).1
 have:=h1.life
 have k1:(zbx 1).life=10:=rfl
 have k2:(zbx 2).life=20:=rfl
 rcases h1.kind with e|e
 ·rw[e,k1]at this;omega
 ·rw[e,k2]at this;omega
theorem z6w (w:Wld) (l:List Blw) (hl:zd4 w) (hll:l.length≤9223372036854775807) (h:zcs w l=0):Spec Tryz.prog 125 [zcf w,.c (.sl 2 (l.map zi5))] [] (.tup [zcf (zns w l),.c (.sl 1 ((z7c w l).map zao)),I .i64 (zcs w l)]) []:=by
 have hw:zap w=0:=by unfold zcs at h;split at h;rename_i h1;exact absurd h h1;rename_i h1;simpa using h1
 have w3:=(zcr hw).2.2.1
 have hr:zju w l=zsr w l:=by unfold zju;rw[if_pos h]
 have hrl:(zsr w l).length=w.troops.length:=by unfold zsr;rw[List.length_map]
 refine spB Tryz.func125 62 [.cell 4 32,.tmp 5,.tmp 6] Tryz.results125 ?_
 try refine xst ?_
 refine caP (ybg w l hl hll) ?_
 try refine xst ?_
 refine cI (fun h1=>?_) fun h1=>?_
 ·exact absurd h h1
 ·try refine xst ?_
  refine caP (yje w hw) ?_
  try refine xst ?_
  refine zay (fun k:Nat=>⟨[(32,I .i64 k),(31,I .i64 w.troops.length),(30,.c (.sl 7 (w.troops.map zch))),(10,.own 2),(9,.own 3),(7,.c (.sl 1 ((zju w l).map zao))),(4,.ptr 1 0 0),(2,.ptr 0 0 0)],[(0,.blk 32 (zhe w)),(1,.blk 32 [I .i64 0,I .i64 0,.c (.v (.slice none 0 0)),.c (.v (.slice none 0 0)),.c (.v (.slice none 0 0)),.c (.v (.slice none 0 0)),.c (.v (.slice none 0 0)),I .i64 0,I .i64 0]),(2,.row 89 7 ((zoz w l k).map zch)),(3,.row 3 1 ((zmj w l k).map zao))],4⟩) (fun k:Nat=>k≤w.troops.length) (fun k:Nat=>w.troops.length-k) (0) (Nat.zero_le _) ((To.nil 9 3 1 rfl).trans (To.mk [0,1,2,3] rfl rfl (by decide) ?_ ?_)) ?_
  ·simp(etaStruct := .none)only[push_cast,zad,seval,zoz,zmj,List.take_zero,List.map_nil,List.filter_nil]
  ·exact xS
  rintro k hk
  try refine xst ?_
  refine cI (fun h2=>?_) fun h2=>?_
  ·have hlt:k<w.troops.length:=by omega
   have hrk:k<(zju w l).length:=by rw[hr,hrl];exact hlt
   have hrv:(zju w l).getD k default=zfj w l (w.troops.getD k default).id:=by
    rw[hr,zaq _ _ (by rw[hrl];exact hlt)]
    simp only[zsr,List.getElem_map];rw[zaq _ _ hlt]
   have hb:=zxl w l (w.troops.getD k default).id
   have hlb:=yc6 hw hlt
   have st1:=zqv w l hlt
   have st2:=zqx w l hlt
   have ll1:=zu9 w l k
   have ll2:=zvj w l k
   have hwl:(zej w l (w.troops.getD k default)).life=(w.troops.getD k default).life-zfj w l (w.troops.getD k default).id:=rfl
   try refine xz5 (gd hlt) zac (gd hrk) hrv zab ?_
   (try(refine⟨by kernel_rfl,?_⟩))
   try refine xz5 (gd hlt) zac (gd hrk) hrv zab ?_
   refine cI (fun h3=>?_) fun h3=>?_
   ·rw[if_pos (by rw[hwl];exact h3)]at st1 st2
    rw[List.append_nil]at st2
    try refine xz5 (gd hlt) zac (gd hrk) hrv zab ?_
    refine⟨k+1,by omega,by omega,To.mk [0,1,42,3] rfl rfl (by decide) ?_ ?_⟩
    ·(try(refine xz5 st1 st2 zac zyf Qp ?_;try exact xtI))
    ·(try(refine xz5 (gd hlt) zac (gd hrk) hrv zab ?_;try exact xtI))
   ·rw[if_neg (by rw[hwl];omega)]at st1 st2
    rw[List.append_nil]at st1
    try refine xz5 (gd hlt) zac (gd hrk) hrv zab ?_
    refine⟨k+1,by omega,by omega,To.mk [0,1,2,42] rfl rfl (by decide) ?_ ?_⟩
    ·(try(refine xz4 st1 st2 zab Qp ?_;try exact xtI))
    ·(try(refine xz5 (gd hlt) zac (gd hrk) hrv zab ?_;try exact xtI))
  ·obtain rfl:k=w.troops.length:=by omega
   have e1:zns w l=zhs w l:=by unfold zns;rw[if_pos h]
   have e2:z7c w l=zvi w l:=by unfold z7c;rw[if_pos h]
   rw[zva,zvk,e1,e2]
   try refine xst ?_
   exact znb zty h rfl
theorem z3v (w:Wld) (l:List Blw) (hl:zd4 w) (hw:zap w=0) (hll:l.length≤200):Spec Tryz.prog 69 [zcf w,.c (.sl 2 (l.map zi5))] [] (.tup [zcf (zhs w l),.c (.sl 1 ((zvi w l).map zao))]) []:=by
 have w3:=(zcr hw).2.2.1
 refine spB Tryz.func69 43 [.cell 4 32,.tmp 5] Tryz.results69 ?_
 try refine xst ?_
 refine zay (fun k:Nat=>⟨[(13,I .i64 k),(12,I .i64 w.troops.length),(11,.c (.sl 7 (w.troops.map zch))),(7,.own 3),(6,.own 2),(4,.ptr 1 0 0),(2,.ptr 0 0 0),(1,.c (.sl 2 (l.map zi5)))],[(0,.blk 32 (zhe w)),(1,.blk 32 [I .i64 0,I .i64 0,.c (.v (.slice none 0 0)),.c (.v (.slice none 0 0)),.c (.v (.slice none 0 0)),.c (.v (.slice none 0 0)),.c (.v (.slice none 0 0)),I .i64 0,I .i64 0]),(2,.row 89 7 ((zoz w l k).map zch)),(3,.row 3 1 ((zmj w l k).map zao))],4⟩) (fun k:Nat=>k≤w.troops.length) (fun k:Nat=>w.troops.length-k) (0) (Nat.zero_le _) (((To.nil 6 89 7 rfl).trans (To.nil 7 3 1 rfl)).trans (To.mk [0,1,2,3] rfl rfl (by decide) ?_ ?_)) ?_
 ·simp(etaStruct := .none)only[push_cast,zad,seval,zoz,zmj,List.take_zero,List.map_nil,List.filter_nil]
 ·exact xS
 rintro k hk
 try refine xst ?_
 refine cI (fun h1=>?_) fun h1=>?_
 ·have hlt:k<w.troops.length:=by omega
  have hb:=zxl w l (w.troops.getD k default).id
  have hlb:=yc6 hw hlt
  have st1:=zqv w l hlt
  have st2:=zqx w l hlt
  have ll1:=zu9 w l k
  have ll2:=zvj w l k
  have hwl:(zej w l (w.troops.getD k default)).life=(w.troops.getD k default).life-zfj w l (w.troops.getD k default).id:=rfl
  try refine xz2 (gd hlt) zac ?_
  refine caP (yji w l (w.troops.getD k default).id hl hw hll) ?_
  try refine xz2 (gd hlt) zac ?_
  (try(refine⟨by kernel_rfl,?_⟩))
  try refine xz2 (gd hlt) zac ?_
  refine cI (fun h2=>?_) fun h2=>?_
  ·rw[if_neg (by rw[hwl];omega)]at st1 st2
   rw[List.append_nil]at st1
   try refine xz2 (gd hlt) zac ?_
   refine⟨k+1,by omega,by omega,To.mk [0,1,2,46] rfl rfl (by decide) ?_ ?_⟩
   ·(try(refine xz4 st1 st2 zab Qp ?_;try exact xtI))
   ·(try(refine xz2 (gd hlt) zac ?_;try exact xtI))
  ·rw[if_pos (by rw[hwl];omega)]at st1 st2
   rw[List.append_nil]at st2
   try refine xz2 (gd hlt) zac ?_
   refine⟨k+1,by omega,by omega,To.mk [0,1,46,3] rfl rfl (by decide) ?_ ?_⟩
   ·(try(refine xz5 st1 st2 zac zyf Qp ?_;try exact xtI))
   ·(try(refine xz2 (gd hlt) zac ?_;try exact xtI))
 ·obtain rfl:k=w.troops.length:=by omega
  rw[zva,zvk]
  try refine xst ?_
  exact zcw zty rfl
def zi4 (id:Int) (t:Trp):Bool:=decide (t.id=id)
theorem yda (id:Int) (t:Trp):zi4 id t=(decide (t.id=id):Bool):=rfl
def ydp (a b:Cel):Bool:=zal b.x (a.x-1) (a.x+1)&&zal b.y (a.y-1) (a.y+1)
theorem yka (a b:Cel):ydp a b=(zal b.x (a.x-1) (a.x+1)&&zal b.y (a.y-1) (a.y+1):Bool):=rfl
def zbw (t:Trp) (n:Int):Trp:={ t with load:=n }
theorem zbh (t:Trp) (n:Int):zbw t n=({ t with load:=n } : Trp):=rfl
def zkk (w:Wld) (i m:Nat):Wld:={ w with mines:=w.mines.set m (w.mines.getD m default-1),troops:=w.troops.set i (zbw (w.troops.getD i default) ((w.troops.getD i default).load+1)) }
def zdg (w:Wld) (d:Ded) (i:Nat):Bool:=decide ((w.troops.getD i default).kind=1)&&decide ((w.troops.getD i default).load<5)&&ydp (w.troops.getD i default).c d.c&&inF w.f d.c&&decide (0<w.mines.getD (zaw w.f d.c) default)
def zey (w:Wld) (i:Nat):Int:=min (w.troops.getD i default).load (1000000-w.stocks.getD (w.troops.getD i default).owner.toNat default)
def zkz (w:Wld) (i:Nat):Wld:={ w with stocks:=w.stocks.set (w.troops.getD i default).owner.toNat (w.stocks.getD (w.troops.getD i default).owner.toNat default+zey w i),troops:=w.troops.set i (zbw (w.troops.getD i default) ((w.troops.getD i default).load-zey w i)) }
theorem zf0 (w:Wld) (i:Nat):zkz w i=({ w with stocks:=w.stocks.set (w.troops.getD i default).owner.toNat (w.stocks.getD (w.troops.getD i default).owner.toNat default+zey w i),troops:=w.troops.set i (zbw (w.troops.getD i default) ((w.troops.getD i default).load-zey w i)) } : Wld):=rfl
def zjf (w:Wld) (i:Nat):Bool:=ydp (w.bases.getD (w.troops.getD i default).owner.toNat default) (w.troops.getD i default).c
def zdk (b:Cel):List Cel := [b,⟨b.x-1,b.y-1⟩,⟨b.x,b.y-1⟩,⟨b.x+1,b.y-1⟩,⟨b.x-1,b.y⟩,b,⟨b.x+1,b.y⟩,⟨b.x-1,b.y+1⟩,⟨b.x,b.y+1⟩,⟨b.x+1,b.y+1⟩]
theorem ycf (b:Cel):zdk b=([b,⟨b.x-1,b.y-1⟩,⟨b.x,b.y-1⟩,⟨b.x+1,b.y-1⟩,⟨b.x-1,b.y⟩,b,⟨b.x+1,b.y⟩,⟨b.x-1,b.y+1⟩,⟨b.x,b.y+1⟩,⟨b.x+1,b.y+1⟩]:List Cel):=rfl
def zlu (w:Wld) (c:Cel):Bool:=zca w.f c && !(w.troops.any fun t=>decide (t.c=c))
def zpr (w:Wld) (b:Cel):Option Cel:=(zdk b).find? (zlu w)
def zgn (w:Wld) (d:Ded):Bool:=decide (0≤d.who)&&decide (d.who<w.bases.length)&&(decide (d.what=1)||decide (d.what=2))&&decide ((zbx d.what).price≤w.stocks.getD d.who.toNat default)&&decide (w.troops.length<100)&&decide (w.next<1000000)
def zd8 (w:Wld) (d:Ded) (c:Cel):Wld:={ w with troops:=w.troops ++ [⟨w.next,d.who,d.what,c,(zbx d.what).life,0⟩],next:=w.next+1,stocks:=w.stocks.set d.who.toNat (w.stocks.getD d.who.toNat default-(zbx d.what).price) }
def zf6 (w:Wld) (d:Ded):Wld × Bool :=
 if d.kind=1 then match w.troops.findIdx? (zi4 d.who)with
  | some i=>if zdg w d i then (zkk w i (zaw w.f d.c),true)else (w,false)
  | none=>(w,false)
 else if d.kind=2 then match w.troops.findIdx? (zi4 d.who)with
  | some i=>if zjf w i then (zkz w i,decide (0<zey w i))else (w,false)
  | none=>(w,false)
 else if d.kind=3 then (if zgn w d then match zpr w (w.bases.getD d.who.toNat default)with
  | some c=>(zd8 w d c,true)
  | none=>(w,false)
  else (w,false))
 else (w,false)
theorem zwg {w:Wld} {t:Trp} {n:Int} (h:TrpOk w t) (hn:0≤n∧n≤5*(2-t.kind)):TrpOk w (zbw t n):=zj8 h.kind h.id h.owner h.at_ h.life hn
theorem zqi {w:Wld} (h:Right w) {i:Nat} (hi:i<w.troops.length):∃o:Nat,(w.troops.getD i default).owner=(o:Int)∧o<w.bases.length∧o<w.stocks.length:=by
 have:=(h.trp i hi).owner
 have hs:=h.sl
 refine⟨(w.troops.getD i default).owner.toNat,by omega,by omega,by omega⟩
theorem z6u {w:Wld} (h:Right w) {c:Cel} (hc:inF w.f c=true):zaw w.f c<w.mines.length∧c.y*w.f.w+c.x=((zaw w.f c:Nat):Int)∧0≤c.y*w.f.w∧c.y*w.f.w≤1600:=by
 obtain⟨i1,i2,i3,i4,i5⟩:=zbb h.f hc
 have:=h.ml
 unfold zaw;omega
theorem zqa {w:Wld} (h:Right w) {i:Nat} (hi:i<w.troops.length) {n:Int} (hn:0≤n∧n≤5*(2-(w.troops.getD i default).kind)) {st mi:List Int} (hs:st.length=w.stocks.length) (hm:mi.length=w.mines.length) (hs2:∀j,j<st.length→0≤st.getD j default∧st.getD j default≤1000000) (hm2:∀j,j<mi.length→(0≤mi.getD j default∧mi.getD j default≤1000000)∧(mi.getD j default=0∨w.f.p.getD j default=3)) :
 Right { w with stocks:=st,mines:=mi,troops:=w.troops.set i (zbw (w.troops.getD i default) n) }:=by
 have G:=fun p=>zks (zbw (w.troops.getD i default) n) p hi
 refine⟨h.f,h.nb,by simpa using h.nt,by rw[hs];exact h.sl,by rw[hm];exact h.ml,h.nx,h.nw,fun j hj=>?_,hm2,fun k hk=>?_,fun j k hjk hk=>?_⟩
 ·obtain⟨a1,_,a3⟩:=h.base j hj
  exact⟨a1,hs2 j (by rw[hs,h.sl];exact hj),a3⟩
 ·have hk':k<w.troops.length:=by simpa using hk
  have e:∀t,TrpOk w t→TrpOk { w with stocks:=st,mines:=mi,troops:=w.troops.set i (zbw (w.troops.getD i default) n) } t:=fun t ht=>⟨ht.kind,ht.id,ht.owner,ht.at_,ht.x,ht.y,ht.life,ht.load⟩
  simp only[G]
  split
  ·exact e _ (zwg (h.trp i hi) hn)
  ·exact e _ (h.trp k hk')
 ·have hk':k<w.troops.length:=by simpa using hk
  have:=h.ord j k hjk hk'
  simp only[G]
  have f1:∀m,(if m=i then zbw (w.troops.getD i default) n else w.troops.getD m default).id=(w.troops.getD m default).id∧(if m=i then zbw (w.troops.getD i default) n else w.troops.getD m default).c=(w.troops.getD m default).c:=fun m=>by
   split
   ·rename_i e;subst e;exact⟨rfl,rfl⟩
   ·exact⟨rfl,rfl⟩
  rw[(f1 j).1,(f1 k).1,(f1 j).2,(f1 k).2];exact this
theorem z1k {w:Wld} (h:Right w) {i:Nat} (hi:i<w.troops.length) {d:Ded} (ho:zdg w d i=true):Right (zkk w i (zaw w.f d.c)):=by
 unfold zdg at ho
 simp only[bJ,decide_eq_true_eq]at ho
 obtain⟨⟨⟨⟨o1,o2⟩,_⟩,o4⟩,o5⟩:=ho
 obtain⟨m1,_⟩:=z6u h o4
 have hl:=(h.trp i hi).load
 have G:=fun p=>zks (w.mines.getD (zaw w.f d.c) default-1) p m1
 refine zqa h hi (by omega) rfl (by simp) (fun j hj=>(h.base j (by rw[←h.sl];exact hj)).2.1) (fun j hj=>?_)
 have hj':j<w.mines.length:=by simpa using hj
 rw[G]
 split
 ·rename_i e;subst e
  obtain⟨a1,a2⟩:=h.mine _ hj'
  exact⟨by omega,by rcases a2 with a2|a2;omega;exact .inr a2⟩
 ·exact h.mine j hj'
theorem zs3 {w:Wld} (h:Right w) {i:Nat} (hi:i<w.troops.length):0≤zey w i∧zey w i≤(w.troops.getD i default).load∧w.stocks.getD (w.troops.getD i default).owner.toNat default+zey w i≤1000000∧0≤w.stocks.getD (w.troops.getD i default).owner.toNat default:=by
 obtain⟨o,e,ho,hs⟩:=zqi h hi
 have hl:=(h.trp i hi).load
 have hb:=(h.base o ho).2.1
 have e2:(w.troops.getD i default).owner.toNat=o:=by omega
 unfold zey
 rw[e2];omega
theorem z1m {w:Wld} (h:Right w) {i:Nat} (hi:i<w.troops.length):Right (zkz w i):=by
 obtain⟨o,e,ho,hs⟩:=zqi h hi
 have e2:(w.troops.getD i default).owner.toNat=o:=by omega
 have hl:=(h.trp i hi).load
 have hn:=zs3 h hi
 unfold zkz
 rw[e2]at hn ⊢
 have G:=fun p=>zks (w.stocks.getD o default+zey w i) p hs
 refine zqa h hi (by omega) (by simp) rfl (fun j hj=>?_) (fun j hj=>h.mine j hj)
 rw[G]
 split
 ·omega
 ·exact(h.base j (by rw[←h.sl];simpa using hj)).2.1
theorem hireOk_iff {w:Wld} {d:Ded} : zgn w d=true↔((((0≤d.who∧d.who<w.bases.length)∧(d.what=1∨d.what=2))∧(zbx d.what).price≤w.stocks.getD d.who.toNat default)∧w.troops.length<100)∧w.next<1000000:=by
 unfold zgn
 simp only[bJ,Bool.or_eq_true,decide_eq_true_eq]
theorem z35 {α : Type} [Inhabited α] (l:List α) (x : α) (k:Nat):(l ++ [x]).getD k default=if k<l.length then l.getD k default else if k=l.length then x else default:=by
 by_cases h:k<l.length
 ·rw[if_pos h,zo3 _ _ _ h]
 ·rw[if_neg h]
  by_cases h2:k=l.length
  ·subst h2;rw[if_pos rfl,zaq _ _ (by simp)];simp
  ·rw[if_neg h2];simp only[List.getD_eq_getElem?_getD];rw[List.getElem?_eq_none (by simp;omega)];rfl
theorem z1l {w:Wld} (h:Right w) {d:Ded} (ho:zgn w d=true) {c:Cel} (hc:zlu w c=true):Right (zd8 w d c):=by
 obtain⟨⟨⟨⟨⟨o1,o2⟩,o3⟩,o4⟩,o5⟩,o6⟩:=hireOk_iff.1 ho
 unfold zlu at hc
 simp only[bJ,Bool.not_eq_true',List.any_eq_false,decide_eq_true_eq]at hc
 obtain⟨c1,c2⟩:=hc
 have hs:d.who.toNat<w.stocks.length:=by rw[h.sl];omega
 have G:=fun p=>zks (w.stocks.getD d.who.toNat default-(zbx d.what).price) p hs
 have hp:0≤(zbx d.what).price:=by rcases o3 with e|e<;>rw[e]<;>decide
 have hx:=h.nx
 have T:=fun k=>z35 w.troops (⟨w.next,d.who,d.what,c,(zbx d.what).life,0⟩:Trp) k
 refine⟨h.f,h.nb,by simp only[zd8,List.length_append,List.length_cons,List.length_nil];omega,by simp only[zd8,List.length_set];exact h.sl,h.ml,by simp only[zd8];omega,h.nw,fun j hj=>?_,h.mine,fun k hk=>?_,fun j k hjk hk=>?_⟩
 ·obtain⟨a1,a2,a3⟩:=h.base j hj
  refine⟨a1,?_,a3⟩
  simp only[zd8,G]
  split
  ·rename_i e;subst e;omega
  ·exact a2
 ·simp only[zd8,List.length_append,List.length_cons,List.length_nil]at hk
  simp only[zd8,T]
  split
  ·rename_i hk2
   have ok:=h.trp k hk2
   exact zj8 ok.kind ⟨ok.id.1,by have:=ok.id.2;simp only;omega⟩ ok.owner ok.at_ ok.life ok.load
  ·rw[if_pos (by omega)]
   refine zj8 o3 ⟨hx.1,by simp only;omega⟩ ⟨o1,by simp only;omega⟩ c1 ⟨?_,Int.le_refl _⟩ ⟨Int.le_refl _,?_⟩
   ·rcases o3 with e|e<;>simp only<;>rw[e]<;>decide
   ·simp only;omega
 ·simp only[zd8,List.length_append,List.length_cons,List.length_nil]at hk
  simp only[zd8,T]
  rw[if_pos (show j<w.troops.length by omega)]
  split
  ·rename_i hk2
   exact h.ord j k hjk hk2
  ·have hj:j<w.troops.length:=by omega
   rw[if_pos (by omega)]
   have ok:=(h.trp j hj).id
   refine⟨by simp only;omega,fun e=>?_⟩
   exact c2 _ (zax _ _ hj) e
theorem zha {w:Wld} {id:Int} {i:Nat} (h:w.troops.findIdx? (zi4 id)=some i):i<w.troops.length:=by
 obtain⟨hi,_⟩:=List.findIdx?_eq_some_iff_getElem.1 h
 exact hi
theorem z1n {w:Wld} (h:Right w) (d:Ded):Right (zf6 w d).1:=by
 unfold zf6
 split
 ·split
  ·rename_i i hi
   split
   ·rename_i ho;exact z1k h (zha hi) ho
   ·exact h
  ·exact h
 ·split
  ·split
   ·rename_i i hi
    split
    ·exact z1m h (zha hi)
    ·exact h
   ·exact h
  ·split
   ·split
    ·rename_i ho
     split
     ·rename_i c hc;exact z1l h ho (List.find?_some hc)
     ·exact h
    ·exact h
   ·exact h
def zbp (w:Wld):List Ded→Wld × List Bool
 | []=>(w,[])
 | d::r=>((zbp (zf6 w d).1 r).1,(zf6 w d).2::(zbp (zf6 w d).1 r).2)
theorem zo9 (l:List Ded) (d:Ded):∀w,zbp w (l ++ [d])=((zf6 (zbp w l).1 d).1,(zbp w l).2 ++ [(zf6 (zbp w l).1 d).2]):=by
 induction l with
 | nil=>intro w;rfl
 | cons a r ih=>intro w;simp only[List.cons_append,zbp];rw[ih]
theorem zjm (l:List Ded):∀ {w:Wld},Right w→Right (zbp w l).1:=by
 induction l with
 | nil=>intro w h;exact h
 | cons a r ih=>intro w h;exact ih (z1n h a)
theorem zlz (l:List Ded):∀w,(zbp w l).2.length=l.length:=by
 induction l with
 | nil=>intro w;rfl
 | cons a r ih=>intro w;simp only[zbp,List.length_cons,ih]
theorem zsv {α : Type} (l:List α) (i:Nat) (d : α) (h:i<l.length):l.getD i d=l[i]:=by simp[h]
abbrev zl0 (d:Ded):AV := .agg [I .i64 d.kind,I .i64 d.who,I .i64 d.c.x,I .i64 d.c.y,I .i64 d.what]
abbrev z9n (w:Wld) (i j k:Nat):List AV := [I .i64 w.f.w,I .i64 w.f.h,.c (.sl 1 (w.f.p.map zao)),.c (.sl 2 (w.bases.map zbk)),.own i,.own j,.own k,I .i64 w.next,I .i64 w.now]
abbrev stR (w:Wld):Chunk := .row 3 1 (w.stocks.map zao)
abbrev miR (w:Wld):Chunk := .row 3 1 (w.mines.map zao)
abbrev trR (w:Wld):Chunk := .row 89 7 (w.troops.map zch)
abbrev zhf (w:Wld):List Chunk := [.blk 241 (z9n w 1 2 3),stR w,miR w,trR w]
theorem yjj (id:Int) (t:Trp):Spec Tryz.prog 215 ([] ++ [z3p t] ++ [.fel 1 [[pI id]] 0 0]) [] (B (zi4 id t)) []:=by
 refine spB Tryz.func215 8 [.tmp 3] Tryz.results215 ?_
 try refine xst ?_
 exact zcw yda rfl
theorem z0e (w:Wld) (id:Int) (hw:Right w) (h:w.troops.findIdx? (zi4 id)=none):Spec Tryz.prog 206 [.ptr 0 0 0,I .i64 id] (zhf w) (.c (.v (.pointer none))) (zhf w):=by
 have hz:zg6 (zi4 id) w.troops = -1:=by unfold zg6;rw[h]
 have hnt:=hw.nt
 refine spB Tryz.func206 22 [.tmp 4] Tryz.results206 ?_
 try refine xst ?_
 refine zc0 (zja _ [] [.fel 1 [[pI id]] 0 0] w.troops (zi4 id) (by omega) (fun t _=>yjj id t) (fun _=>rfl) (fun _=>rfl)) (WkL.refl _) rfl ?_
 rw[hz]
 try refine xst ?_
 refine cI (fun h1=>?_) fun h1=>?_
 ·try refine xst ?_
  refine zb9 [0,1,2,3] rfl rfl (by decide) ⟨?_,?_,?_,?_,trivial⟩ trivial ?_<;>exact xS
 ·exact absurd h1 (by decide)
theorem z0d (w:Wld) (id:Int) (i:Nat) (hw:Right w) (h:w.troops.findIdx? (zi4 id)=some i):Spec Tryz.prog 206 [.ptr 0 0 0,I .i64 id] (zhf w) (.ptr 3 i 0) (zhf w):=by
 have hz:zg6 (zi4 id) w.troops=(i:Int):=by unfold zg6;rw[h]
 have hnt:=hw.nt
 have hi:=zha h
 refine spB Tryz.func206 22 [.tmp 4] Tryz.results206 ?_
 try refine xst ?_
 refine zc0 (zja _ [] [.fel 1 [[pI id]] 0 0] w.troops (zi4 id) (by omega) (fun t _=>yjj id t) (fun _=>rfl) (fun _=>rfl)) (WkL.refl _) rfl ?_
 rw[hz]
 try refine xst ?_
 refine cI (fun h1=>?_) fun h1=>?_
 ·omega
 ·try refine xst ?_
  refine zb9 [0,1,2,3] rfl rfl (by decide) ⟨?_,?_,?_,?_,trivial⟩ trivial ?_<;>exact xS
theorem yde (a b:Cel) (ha : -1000000≤a.x∧a.x≤1000000 ∧ -1000000≤a.y∧a.y≤1000000):Spec Tryz.prog 207 [zeu a,zeu b] [] (B (ydp a b)) []:=by
 refine spB Tryz.func207 35 [.tmp 4] Tryz.results207 ?_
 try refine xst ?_
 (first|(refine zi1 rfl (Wk.of ?_);(try simp(etaStruct := .none)only[push_cast,zad,seval]);first|done|(simp[ydp,zal,Bool.and_assoc, *];done)|(simp_all[ydp,zal,Bool.and_assoc];done))|(refine zi1 rfl ?_;(try simp(etaStruct := .none)only[push_cast,zad,seval]);(try simp[ydp,zal,Bool.and_assoc, *]);(try exact wkc)))
theorem z19 (w:Wld) (d:Ded) (hw:Right w) (h:w.troops.findIdx? (zi4 d.who)=none):Spec Tryz.prog 192 [.ptr 0 0 0,zl0 d] (zhf w) (B false) (zhf w):=by
 refine spB Tryz.func192 88 [.tmp 4] Tryz.results192 ?_
 try refine xst ?_
 refine caM [0,1,2,3] (z0e w d.who hw h) ?_
 try refine xst ?_
 refine zh5 ?_ ?_
 ·rfl
 try refine xst ?_
 (try(refine⟨by kernel_rfl,?_⟩))
 try refine xst ?_
 refine cI (fun h1=>?_) fun h1=>?_
 ·try refine xst ?_
  refine zb9 [0,1,2,3] rfl rfl (by decide) ⟨?_,?_,?_,?_,trivial⟩ trivial ?_<;>exact xS
 ·exact absurd h1 (by decide)
theorem z7d (w:Wld) (d:Ded) (i:Nat) (hw:Right w) (h:w.troops.findIdx? (zi4 d.who)=some i) (b:Bool) (W:Wld) (hW:(zdg w d i=true→W=zkk w i (zaw w.f d.c)∧b=true)∧(zdg w d i=false→W=w∧b=false)):Spec Tryz.prog 192 [.ptr 0 0 0,zl0 d] (zhf w) (B b) (zhf W):=by
 have hi:=zha h
 have ok:=hw.trp i hi
 have hav:atV w.f d.c=if inF w.f d.c then (zar w.f d.c,0)else (0,7):=by unfold atV;rw[if_neg (by simp[hw.f])]
 have hx:=ok.x;have hy:=ok.y
 have hfl:=za4 hw.f
 have hld:=ok.load
 refine spB Tryz.func192 88 [.tmp 4] Tryz.results192 ?_
 try refine xz2 (gd hi) zac ?_
 refine caM [0,1,2,3] (z0d w d.who i hw h) ?_
 try refine xz2 (gd hi) zac ?_
 refine gcP (fun hcc=>yde (w.troops.getD i default).c d.c (by omega)) ?_
 try refine xz2 (gd hi) zac ?_
 (try(refine⟨by kernel_rfl,?_⟩))
 try refine xz2 (gd hi) zac ?_
 refine cI (fun h1=>?_) fun h1=>?_
 ·have e:zdg w d i=false:=by
   unfold zdg
   simp only[Bool.and_eq_false_iff,decide_eq_false_iff_not]
   rcases h1 with (h1|h1)|h1
   ·exact .inl (.inl (.inl (.inl (by omega))))
   ·exact .inl (.inl (.inl (.inr (by omega))))
   ·exact .inl (.inl (.inr h1))
  obtain⟨rfl,rfl⟩:=hW.2 e
  try refine xz2 (gd hi) zac ?_
  refine zb9 [0,1,2,3] rfl rfl (by decide) ⟨?_,?_,?_,?_,trivial⟩ trivial ?_<;>simp(etaStruct := .none)only[push_cast,zad,seval,zkk,zbw,List.map_set,zao,zch]
 ·try refine xz2 (gd hi) zac ?_
  refine caP (z2n w.f d.c hw.l.1) ?_
  rw[hav]
  try refine xz2 (gd hi) zac ?_
  (try(refine⟨by kernel_rfl,?_⟩))
  try refine xz2 (gd hi) zac ?_
  refine cI (fun h2=>?_) fun h2=>?_
  ·have hin:inF w.f d.c=false:=by
    cases hc:inF w.f d.c with
    | false=>rfl
    | true=>rw[hc]at h2;simp at h2
   have e:zdg w d i=false:=by unfold zdg;rw[hin];simp
   obtain⟨rfl,rfl⟩:=hW.2 e
   try refine xz2 (gd hi) zac ?_
   refine zb9 [0,1,2,3] rfl rfl (by decide) ⟨?_,?_,?_,?_,trivial⟩ trivial ?_<;>simp(etaStruct := .none)only[push_cast,zad,seval,zkk,zbw,List.map_set,zao,zch]
  ·have hin:inF w.f d.c=true:=by
    cases hc:inF w.f d.c with
    | true=>rfl
    | false=>rw[hc]at h2;simp at h2
   obtain⟨m1,m2,m3,m4⟩:=z6u hw hin
   obtain⟨m,hm⟩:∃m,m=zaw w.f d.c:=⟨_,rfl⟩
   rw[←hm]at m1 m2
   have hml:=hw.ml
   have hpl:=hw.places
   have ew1:IntKind.i64.wrap (IntKind.i64.wrap (d.c.y*w.f.w)+d.c.x)=(m:Int):=by rw[zaj (d.c.y*w.f.w) (by omega) (by omega),zaj _ (by omega) (by omega)];exact m2
   have hmb:=(hw.mine m m1).1
   try refine xz5 (gd hi) zac ew1 (gd m1) zab ?_
   (try(refine⟨by kernel_rfl,?_⟩))
   try refine xz5 (gd hi) zac ew1 (gd m1) zab ?_
   refine cI (fun h3=>?_) fun h3=>?_
   ·have e:zdg w d i=false:=by
     unfold zdg
     rw[←hm,h3];simp
    obtain⟨rfl,rfl⟩:=hW.2 e
    try refine xz5 (gd hi) zac ew1 (gd m1) zab ?_
    refine zb9 [0,1,2,3] rfl rfl (by decide) ⟨?_,?_,?_,?_,trivial⟩ trivial ?_<;>simp(etaStruct := .none)only[push_cast,zad,seval,zkk,zbw,List.map_set,zao,zch]
   ·have e:zdg w d i=true:=by
     unfold zdg
     rw[←hm,hin]
     simp only[bJ,decide_eq_true_eq]
     exact⟨⟨⟨⟨by omega,by omega⟩,h1.2⟩,trivial⟩,by omega⟩
    obtain⟨rfl,rfl⟩:=hW.1 e
    rw[←hm]
    try refine xz5 (gd hi) zac ew1 (gd m1) zab ?_
    refine zb9 [0,1,2,3] rfl rfl (by decide) ⟨?_,?_,?_,?_,trivial⟩ trivial ?_<;>simp(etaStruct := .none)only[push_cast,zad,seval,zkk,zbw,List.map_set,zao,zch]
theorem z2a (w:Wld) (d:Ded) (hw:Right w) (h:w.troops.findIdx? (zi4 d.who)=none):Spec Tryz.prog 193 [.ptr 0 0 0,zl0 d] (zhf w) (B false) (zhf w):=by
 refine spB Tryz.func193 80 [.tmp 4] Tryz.results193 ?_
 try refine xst ?_
 refine caM [0,1,2,3] (z0e w d.who hw h) ?_
 try refine xst ?_
 refine zh5 ?_ ?_
 ·rfl
 try refine xst ?_
 (try(refine⟨by kernel_rfl,?_⟩))
 try refine xst ?_
 refine cI (fun h1=>?_) fun h1=>?_
 ·try refine xst ?_
  refine zb9 [0,1,2,3] rfl rfl (by decide) ⟨?_,?_,?_,?_,trivial⟩ trivial ?_<;>exact xS
 ·exact absurd h1 (by decide)
theorem drop_zero {w:Wld} (hw:Right w) {i:Nat} (hi:i<w.troops.length) (h:(w.troops.getD i default).load=0):zey w i=0∧zkz w i=w:=by
 have hn:=zs3 hw hi
 have h0:zey w i=0:=by omega
 obtain⟨o,e,ho,hs⟩:=zqi hw hi
 refine⟨h0,?_⟩
 unfold zkz
 rw[h0,Int.add_zero,Int.sub_zero,zmn _ _ (by omega)]
 have:zbw (w.troops.getD i default) (w.troops.getD i default).load=w.troops.getD i default:=rfl
 rw[this,zmn _ _ hi]
theorem z7i (w:Wld) (d:Ded) (i:Nat) (hw:Right w) (h:w.troops.findIdx? (zi4 d.who)=some i) (b:Bool) (W:Wld) (hW:(zjf w i=true→W=zkz w i∧b=decide (0<zey w i))∧(zjf w i=false→W=w∧b=false)):Spec Tryz.prog 193 [.ptr 0 0 0,zl0 d] (zhf w) (B b) (zhf W):=by
 have hi:=zha h
 have ok:=hw.trp i hi
 obtain⟨o,eo,ho,hs⟩:=zqi hw hi
 have hn:=zs3 hw hi
 have hb:=hw.base o ho
 have hbx:=inF_iff.1 (ground_iff.1 hb.1).1
 have hfl:=za4 hw.f
 have hld:=ok.load
 have eo2:(w.troops.getD i default).owner.toNat=o:=by omega
 have edN:zey w i=min (w.troops.getD i default).load (1000000-w.stocks.getD o default):=by unfold zey;rw[eo2]
 have ew1:IntKind.i64.wrap (1000000-w.stocks.getD o default)=1000000-w.stocks.getD o default:=zaj _ (by omega) (by omega)
 have emn:(if 1000000-w.stocks.getD o default<(w.troops.getD i default).load then 1000000-w.stocks.getD o default else (w.troops.getD i default).load)=zey w i:=by rw[edN];split<;>omega
 rw[eo2]at hn
 have ew3:IntKind.i64.wrap ((w.troops.getD i default).load-zey w i)=(w.troops.getD i default).load-zey w i:=zaj _ (by rcases ok.kind with k|k<;>omega) (by rcases ok.kind with k|k<;>omega)
 have setg:∀x:List PV,((w.troops.map zch).set i x).getD i []=x:=fun x=>by rw[zsv _ _ _ (by simpa using hi)];simp
 refine spB Tryz.func193 80 [.tmp 4] Tryz.results193 ?_
 try refine ze1 setg (gd hi) zac eo (gd ho) zag (gd hs) zab ew1 emn ?_
 refine caM [0,1,2,3] (z0d w d.who i hw h) ?_
 try refine ze1 setg (gd hi) zac eo (gd ho) zag (gd hs) zab ew1 emn ?_
 refine gcP (fun hcc=>yde (w.bases.getD o default) (w.troops.getD i default).c (by omega)) ?_
 try refine ze1 setg (gd hi) zac eo (gd ho) zag (gd hs) zab ew1 emn ?_
 (try(refine⟨by kernel_rfl,?_⟩))
 try refine ze1 setg (gd hi) zac eo (gd ho) zag (gd hs) zab ew1 emn ?_
 refine cI (fun h1=>?_) fun h1=>?_
 ·have hd:W=w∧b=false:=by
   rcases h1 with h1|h1
   ·obtain⟨z1,z2⟩:=drop_zero hw hi h1
    cases hk:zjf w i with
    | true=>obtain⟨q1,q2⟩:=hW.1 hk;rw[q1,q2,z1,z2];exact⟨rfl,rfl⟩
    | false=>exact hW.2 hk
   ·exact hW.2 (by unfold zjf;rw[eo2];exact h1)
  obtain⟨rfl,rfl⟩:=hd
  try refine ze1 setg (gd hi) zac eo (gd ho) zag (gd hs) zab ew1 emn ?_
  refine zb9 [0,1,2,3] rfl rfl (by decide) ⟨?_,?_,?_,?_,trivial⟩ trivial ?_
  ·exact xS1 zf0
  ·exact xS4 zf0 eo2 zab Qr
  ·exact xS1 zf0
  ·exact xS6 zf0 zbh zac eo ew3 Qr
  ·exact xS
 ·obtain⟨rfl,rfl⟩:=hW.1 (by unfold zjf;rw[eo2];exact h1.2)
  try refine ze1 setg (gd hi) zac eo (gd ho) zag (gd hs) zab ew1 emn ?_
  (try(refine⟨by kernel_rfl,?_⟩))
  try refine ze1 setg (gd hi) zac eo (gd ho) zag (gd hs) zab ew1 emn ?_
  (try(refine⟨by kernel_rfl,?_⟩))
  try refine ze1 setg (gd hi) zac eo (gd ho) zag (gd hs) zab ew1 emn ?_
  refine zb9 [0,1,2,3] rfl rfl (by decide) ⟨?_,?_,?_,?_,trivial⟩ trivial ?_
  ·exact xS1 zf0
  ·exact xS4 zf0 eo2 zab Qr
  ·exact xS1 zf0
  ·exact xS6 zf0 zbh zac eo ew3 Qr
  ·exact xS
theorem zwl (F:FuncId) (a b:List AV) (l:List Trp) (p:Trp→Bool) (hl:l.length≤9223372036854775807) (hp:∀n∈l,Spec Tryz.prog F (a ++ [z3p n]++b) [] (B (p n)) []) (ha:∀h,cvL [] h a=a) (hb:∀h,cvL [] h b=b) :
 Spec Tryz.prog 95 [.c (.sl 7 (l.map zch)),.clo (.func F) a b] [] (B (l.any p)) []:=by
 refine spB Tryz.func95 9 [.tmp 4] Tryz.results95 ?_
 simp(etaStruct := .none)only[push_cast,zad,seval]
 refine zv0 (zja F a b l p hl hp ha hb) (by simp only[ha,hb,cvL,cv];exact WkL.refl _) ?_
 simp(etaStruct := .none)only[push_cast,zad,seval]
 exact zfm rfl trivial (Wk.of (by rw[zkp];rfl))
theorem ynk (t:Trp) (c:Cel):Spec Tryz.prog 216 ([] ++ [z3p t] ++ [.fel 2 [[pI c.x,pI c.y]] 0 0]) [] (B (decide (t.c=c))) []:=by
 refine spB Tryz.func216 8 [.tmp 3] Tryz.results216 ?_
 try refine xz1 zc5 ?_
 exact xrz rfl
theorem zv4 (b:Cel) {i j:Nat} (hi:i<3) (hj:j<3):(zdk b).getD (1+3*i+j) default=⟨b.x+((j:Int)-1),b.y+((i:Int)-1)⟩:=by
 have h1:i=0∨i=1∨i=2:=by omega
 have h2:j=0∨j=1∨j=2:=by omega
 obtain⟨x,y⟩:=b
 have e1:x+(((1:Nat):Int)-1)=x:=by omega
 have e2:y+(((1:Nat):Int)-1)=y:=by omega
 have e3:x+(((0:Nat):Int)-1)=x-1:=by omega
 have e4:y+(((0:Nat):Int)-1)=y-1:=by omega
 have e5:x+(((2:Nat):Int)-1)=x+1:=by omega
 have e6:y+(((2:Nat):Int)-1)=y+1:=by omega
 rcases h1 with rfl|rfl|rfl<;>rcases h2 with rfl|rfl|rfl<;>simp only[e1,e2,e3,e4,e5,e6]<;>rfl
theorem zx8 (b:Cel) {i j:Nat} (hi:i<3) (hj:j<3):(zdk b).take (1+3*i+(j+1))=(zdk b).take (1+3*i+j) ++ [(⟨b.x+((j:Int)-1),b.y+((i:Int)-1)⟩:Cel)]:=by
 rw[←zv4 b hi hj]
 change (zdk b).take ((1+3*i+j)+1)=_
 exact zak _ _ (by rw[show (zdk b).length=10 from rfl];omega)
theorem z7h (w:Wld) (b:Cel) (hw:Right w) (hb : -1000≤b.x∧b.x≤1000 ∧ -1000≤b.y∧b.y≤1000) (c:Cel) (q:Bool) (h:(∀c',zpr w b=some c'→c=c'∧q=true)∧(zpr w b=none→c=⟨0,0⟩∧q=false)):Spec Tryz.prog 208 [.ptr 0 0 0,zeu b] (zhf w) (.tup [zeu c,B q]) (zhf w):=by
 have hal:(zdk b).length=10:=rfl
 have hnt:=hw.nt
 have hav:∀c,atV w.f c=if inF w.f c then (zar w.f c,0)else (0,7):=fun c=>by unfold atV;rw[if_neg (by simp[hw.f])]
 refine spB Tryz.func208 70 [.cell 4 72,.tmp 5] Tryz.results208 ?_
 try refine xst ?_
 refine zay (fun i:Nat=>⟨[(7,I .i64 ((i:Int)-1)),(6,.own 6),(4,.ptr 5 0 0),(3,.ptr 4 0 0),(0,.ptr 0 0 0)],[(0,.blk 241 (z9n w 1 2 3)),(1,stR w),(2,miR w),(3,trR w),(4,.blk 72 [I .i64 b.x,I .i64 b.y]),(5,.blk 72 [I .i64 0,I .i64 0]),(6,.row 72 2 (((zdk b).take (1+3*i)).map zbk))],7⟩) (fun i:Nat=>i≤3) (fun i:Nat=>3-i) (0) (Nat.zero_le _) (To.mk [0,1,2,3,4,5,6] rfl rfl (by decide) ?_ ?_) ?_
 ·exact xS2 ycf zag
 ·simp(etaStruct := .none)only[push_cast,zad,seval,Int.zero_sub]
 rintro i hi
 try refine xst ?_
 refine cI (fun h1=>?_) fun h1=>?_
 ·have hi3:i<3:=by omega
  try refine xst ?_
  refine zay (fun j:Nat=>⟨[(8,I .i64 ((j:Int)-1)),(7,I .i64 ((i:Int)-1)),(6,.own 6),(4,.ptr 5 0 0),(3,.ptr 4 0 0),(0,.ptr 0 0 0)],[(0,.blk 241 (z9n w 1 2 3)),(1,stR w),(2,miR w),(3,trR w),(4,.blk 72 [I .i64 b.x,I .i64 b.y]),(5,.blk 72 [I .i64 0,I .i64 0]),(6,.row 72 2 (((zdk b).take (1+3*i+j)).map zbk))],7⟩) (fun j:Nat=>j≤3) (fun j:Nat=>3-j) (0) (Nat.zero_le _) (To.mk [0,1,2,3,4,5,6] rfl rfl (by decide) ?_ ?_) ?_
  ·exact xS
  ·simp(etaStruct := .none)only[push_cast,zad,seval,Int.zero_sub]
  rintro j hj
  try refine xst ?_
  refine cI (fun h2=>?_) fun h2=>?_
  ·have hj3:j<3:=by omega
   have hst:=zx8 b hi3 hj3
   have hln:((zdk b).take (1+3*i+j)).length≤10:=by rw[List.length_take,hal];omega
   try refine xst ?_
   refine⟨j+1,by omega,by omega,To.mk [0,1,2,3,4,5,8] rfl rfl (by decide) ?_ ?_⟩
   ·(try(refine xz3 hst zag Qp ?_;try exact xtI))
   ·(iterate 2((try simp(etaStruct := .none)only[push_cast,zad,seval,Int.add_sub_cancel,Int.sub_add_cancel]);(try(refine xsu ?_;try exact xtI))))
  ·obtain rfl:j=3:=by omega
   try refine xst ?_
   refine⟨i+1,by omega,by omega,To.mk [0,1,2,3,4,5,6] rfl rfl (by decide) ?_ ?_⟩
   ·(iterate 2((try simp(etaStruct := .none)only[push_cast,zad,seval,Nat.mul_add,Nat.mul_one,Nat.add_assoc]);(try(refine xsu ?_;try exact xtI))))
   ·(iterate 2((try simp(etaStruct := .none)only[push_cast,zad,seval,Int.add_sub_cancel,Int.sub_add_cancel]);(try(refine xsu ?_;try exact xtI))))
 ·obtain rfl:i=3:=by omega
  have hta:(zdk b).take (1+3*3)=zdk b:=rfl
  try refine xst ?_
  refine zay (fun k:Nat=>⟨[(37,I .i64 k),(36,I .i64 10),(35,.own 6),(4,.ptr 5 0 0),(0,.ptr 0 0 0)],[(0,.blk 241 (z9n w 1 2 3)),(1,stR w),(2,miR w),(3,trR w),(4,.blk 72 [I .i64 b.x,I .i64 b.y]),(5,.blk 72 [I .i64 0,I .i64 0]),(6,.row 72 2 ((zdk b).map zbk))],7⟩) (fun k:Nat=>k≤10∧∀j,j<k→zlu w ((zdk b).getD j default)=false) (fun k:Nat=>10-k) (0) (⟨Nat.zero_le _,fun j h=>absurd h (Nat.not_lt_zero _)⟩) (To.mk [0,1,2,3,4,5,6] rfl rfl (by decide) ?_ ?_) ?_
  ·exact xS1 hta
  ·exact xS2 hta hal
  rintro k ⟨hk,hn⟩
  try refine xst ?_
  refine zcd (fun h3=>?_) (fun h3=>?_)
  ·(try replace h3:=xhh h3)
   have hlt:k<(zdk b).length:=by rw[hal];omega
   obtain⟨x,hx⟩:∃x,x=(zdk b).getD k default:=⟨_,rfl⟩
   (iterate 2((try simp(etaStruct := .none) (maxSteps:=1000000)only[push_cast,zad,seval,zae _ _ _ hlt,←hx,zbk]);(try(refine xsu ?_;try exact xtI))))
   refine caP (z2n w.f x hw.l.1) ?_
   rw[hav]
   (iterate 2((try simp(etaStruct := .none) (maxSteps:=1000000)only[push_cast,zad,seval,zae _ _ _ hlt,←hx,zbk]);(try(refine xsu ?_;try exact xtI))))
   (try(refine⟨by kernel_rfl,?_⟩))
   (iterate 2((try simp(etaStruct := .none) (maxSteps:=1000000)only[push_cast,zad,seval,zae _ _ _ hlt,←hx,zbk]);(try(refine xsu ?_;try exact xtI))))
   refine zhj (fun hcc=>zwl _ [] [.fel 2 [[pI x.x,pI x.y]] 0 0] w.troops (fun t=>decide (t.c=x)) (by omega) (fun t _=>ynk t x) (fun _=>rfl) (fun _=>rfl)) (WkL.refl _) rfl xG ?_
   (iterate 2((try simp(etaStruct := .none) (maxSteps:=1000000)only[push_cast,zad,seval,zae _ _ _ hlt,←hx,zbk]);(try(refine xsu ?_;try exact xtI))))
   refine cI (fun h4=>?_) fun h4=>?_
   ·have hfb:zlu w x=true:=by
     unfold zlu zca
     cases hc:inF w.f x with
     | false=>rw[hc]at h4;simp at h4
     | true =>
      rw[hc]at h4
      simp only[if_true]at h4
      rw[h4.2];simp;exact h4.1.2
    obtain⟨rfl,rfl⟩:=h.1 x (by unfold zpr;rw[hx];exact zkv _ _ k hlt (by rw[←hx];exact hfb) hn)
    (iterate 2((try simp(etaStruct := .none) (maxSteps:=1000000)only[push_cast,zad,seval,zae _ _ _ hlt,←hx,zbk]);(try(refine xsu ?_;try exact xtI))))
    refine zb9 [0,1,2,3] rfl rfl (by decide) ⟨?_,?_,?_,?_,trivial⟩ ?_ ?_<;>first|exact Wk.refl _|(try simp(etaStruct := .none)only[push_cast,zad,seval])
   ·have hfb:zlu w x=false:=by
     unfold zlu zca
     cases hc:inF w.f x with
     | false=>rfl
     | true =>
      rw[hc]at h4
      simp only[if_true]at h4
      rcases h4 with h4|h4
      ·by_cases hp:zar w.f x=1
       ·simp[hp]
       ·exact absurd (h4.resolve_left (fun n=>n trivial)) hp
      ·rw[h4];simp
    (iterate 2((try simp(etaStruct := .none) (maxSteps:=1000000)only[push_cast,zad,seval,zae _ _ _ hlt,←hx,zbk]);(try(refine xsu ?_;try exact xtI))))
    refine⟨k+1,⟨by omega,fun j hj=>by
 rcases Nat.lt_or_ge j k with h'|h'
 ·exact hn j h'
 ·rw [show j = k by omega, ← hx]; exact hfb⟩, by omega, To.mk [0, 1, 2, 3, 4, 5, 6] rfl rfl (by decide) ?_ ?_⟩
    ·(iterate 2((try simp(etaStruct := .none) (maxSteps:=1000000)only[push_cast,zad,seval,zae _ _ _ hlt,←hx,zbk]);(try(refine xsu ?_;try exact xtI))))
    ·(iterate 2((try simp(etaStruct := .none) (maxSteps:=1000000)only[push_cast,zad,seval,zae _ _ _ hlt,←hx,zbk]);(try(refine xsu ?_;try exact xtI))))
  ·(try replace h3:=xhh h3)
   obtain⟨rfl,rfl⟩:=h.2 (zo6 _ _ (fun j hj=>hn j (by rw[hal]at hj;omega)))
   try refine xst ?_
   refine zb9 [0,1,2,3] rfl rfl (by decide) ⟨?_,?_,?_,?_,trivial⟩ ?_ ?_<;>first|exact Wk.refl _|(try simp(etaStruct := .none)only[push_cast,zad,seval])
theorem zo1 (k:Int):zeg k=0↔k=1∨k=2:=by unfold zeg;split<;>(try split)<;>omega
theorem ztb {w:Wld} (hw:Right w) {i:Nat} (hi:i<w.bases.length) : -1000≤(w.bases.getD i default).x∧(w.bases.getD i default).x≤1000 ∧ -1000≤(w.bases.getD i default).y∧(w.bases.getD i default).y≤1000:=by
 have:=inF_iff.1 (ground_iff.1 (hw.base i hi).1).1
 have:=za4 hw.f
 omega
theorem z7g (w:Wld) (d:Ded) (hw:Right w) (h:w.stocks.length≤d.who.toNat):Spec Tryz.prog 194 [.ptr 0 0 0,zl0 d] (zhf w) (B false) (zhf w):=by
 have hsl:=hw.sl
 have hg:(w.stocks.map zao).getD d.who.toNat [] = []:=by
  simp only[List.getD_eq_getElem?_getD];rw[List.getElem?_eq_none (by rw[List.length_map];exact h)];rfl
 have hge:d.who<0∨(w.bases.length:Int)≤d.who:=by omega
 refine spB Tryz.func194 126 [.tmp 4] Tryz.results194 ?_
 (iterate 2((try simp(etaStruct := .none) (maxSteps:=1000000)only[push_cast,zad,seval,hg]);(try(refine xsu ?_;try exact xtI))))
 refine caP (zf2 d.what) ?_
 (iterate 2((try simp(etaStruct := .none) (maxSteps:=1000000)only[push_cast,zad,seval,hg]);(try(refine xsu ?_;try exact xtI))))
 (try(refine⟨by kernel_rfl,?_⟩))
 (iterate 2((try simp(etaStruct := .none) (maxSteps:=1000000)only[push_cast,zad,seval,hg]);(try(refine xsu ?_;try exact xtI))))
 refine cI (fun h1=>?_) fun h1=>?_
 ·(iterate 2((try simp(etaStruct := .none) (maxSteps:=1000000)only[push_cast,zad,seval,hg]);(try(refine xsu ?_;try exact xtI))))
  refine zb9 [0,1,2,3] rfl rfl (by decide) ⟨?_,?_,?_,?_,trivial⟩ trivial ?_<;>first|exact Wk.refl _|simp(etaStruct := .none)only[push_cast,zad,seval]
 ·exact absurd h1 (by decide)
theorem z0f (w:Wld) (d:Ded) (hw:Right w) (h:d.who.toNat<w.stocks.length) (hno:zgn w d=false∨zpr w (w.bases.getD d.who.toNat default)=none):Spec Tryz.prog 194 [.ptr 0 0 0,zl0 d] (zhf w) (B false) (zhf w):=by
 have hsl:=hw.sl
 have hb:d.who.toNat<w.bases.length:=by omega
 have hbb:=ztb hw hb
 have hnt:=hw.nt
 refine spB Tryz.func194 126 [.tmp 4] Tryz.results194 ?_
 (iterate 2((try simp(etaStruct := .none) (maxSteps:=1000000)only[push_cast,zad,seval,zae _ _ _ h,zae _ _ _ hb,zao,zbk]);(try(refine xsu ?_;try exact xtI))))
 refine caP (zf2 d.what) ?_
 (iterate 2((try simp(etaStruct := .none) (maxSteps:=1000000)only[push_cast,zad,seval,zae _ _ _ h,zae _ _ _ hb,zao,zbk]);(try(refine xsu ?_;try exact xtI))))
 (try(refine⟨by kernel_rfl,?_⟩))
 (iterate 2((try simp(etaStruct := .none) (maxSteps:=1000000)only[push_cast,zad,seval,zae _ _ _ h,zae _ _ _ hb,zao,zbk]);(try(refine xsu ?_;try exact xtI))))
 refine cI (fun h1=>?_) fun h1=>?_
 ·(iterate 2((try simp(etaStruct := .none) (maxSteps:=1000000)only[push_cast,zad,seval,zae _ _ _ h,zae _ _ _ hb,zao,zbk]);(try(refine xsu ?_;try exact xtI))))
  refine zb9 [0,1,2,3] rfl rfl (by decide) ⟨?_,?_,?_,?_,trivial⟩ trivial ?_<;>first|exact Wk.refl _|simp(etaStruct := .none)only[push_cast,zad,seval]
 ·have hy:zgn w d=true:=by rw[hireOk_iff,←zo1];exact⟨⟨⟨⟨⟨by omega,by omega⟩,by omega⟩,by omega⟩,by omega⟩,by omega⟩
  have hf:zpr w (w.bases.getD d.who.toNat default)=none:=by rcases hno with h2|h2;rw[hy]at h2;simp at h2;exact h2
  (iterate 2((try simp(etaStruct := .none) (maxSteps:=1000000)only[push_cast,zad,seval,zae _ _ _ h,zae _ _ _ hb,zao,zbk]);(try(refine xsu ?_;try exact xtI))))
  refine zcn [0,1,2,3] (z7h w (w.bases.getD d.who.toNat default) hw hbb ⟨0,0⟩ false ⟨fun c' hc=>by rw[hf]at hc;simp at hc,fun _=>⟨rfl,rfl⟩⟩) (WkL.refl _) rfl (by decide) (by simp[za6,zdf,zjc]) ?_
  (iterate 2((try simp(etaStruct := .none) (maxSteps:=1000000)only[push_cast,zad,seval,zae _ _ _ h,zae _ _ _ hb,zao,zbk]);(try(refine xsu ?_;try exact xtI))))
  (try(refine⟨by kernel_rfl,?_⟩))
  (iterate 2((try simp(etaStruct := .none) (maxSteps:=1000000)only[push_cast,zad,seval,zae _ _ _ h,zae _ _ _ hb,zao,zbk]);(try(refine xsu ?_;try exact xtI))))
  refine cI (fun h2=>?_) fun h2=>?_
  ·(iterate 2((try simp(etaStruct := .none) (maxSteps:=1000000)only[push_cast,zad,seval,zae _ _ _ h,zae _ _ _ hb,zao,zbk]);(try(refine xsu ?_;try exact xtI))))
   refine zb9 [0,1,2,3] rfl rfl (by decide) ⟨?_,?_,?_,?_,trivial⟩ trivial ?_<;>first|exact Wk.refl _|simp(etaStruct := .none)only[push_cast,zad,seval]
  ·exact absurd h2 (by decide)
abbrev z9m (w:Wld):List Chunk := [.blk 241 (z9n w 1 2 4),stR w,miR w,.dead,trR w]
theorem z7f (w:Wld) (d:Ded) (hw:Right w) (ho:zgn w d=true) (c:Cel) (hc:zpr w (w.bases.getD d.who.toNat default)=some c):Spec Tryz.prog 194 [.ptr 0 0 0,zl0 d] (zhf w) (B true) (z9m (zd8 w d c)):=by
 have hsl:=hw.sl
 have hoi:=hireOk_iff.1 ho
 rw[←zo1]at hoi
 have h:d.who.toNat<w.stocks.length:=by omega
 have hb:d.who.toNat<w.bases.length:=by omega
 have hbb:=ztb hw hb
 have hnt:=hw.nt
 have hnx:=hw.nx
 have hst:=(hw.base _ hb).2.1
 have hpr:0≤(zbx d.what).price∧(zbx d.what).price≤12:=by rcases (zo1 _).1 hoi.1.1.1.2 with e|e<;>rw[e]<;>decide
 have ew:IntKind.i64.wrap (w.stocks.getD d.who.toNat default-(zbx d.what).price)=w.stocks.getD d.who.toNat default-(zbx d.what).price:=zaj _ (by omega) (by omega)
 have ew2:IntKind.i64.wrap (w.next+1)=w.next+1:=zaj _ (by omega) (by omega)
 refine spB Tryz.func194 126 [.tmp 4] Tryz.results194 ?_
 (iterate 2((try simp(etaStruct := .none) (maxSteps:=1000000)only[push_cast,zad,seval,zae _ _ _ h,zae _ _ _ hb,zao,zbk,ew,ew2]);(try(refine xsu ?_;try exact xtI))))
 refine caP (zf2 d.what) ?_
 (iterate 2((try simp(etaStruct := .none) (maxSteps:=1000000)only[push_cast,zad,seval,zae _ _ _ h,zae _ _ _ hb,zao,zbk,ew,ew2]);(try(refine xsu ?_;try exact xtI))))
 (try(refine⟨by kernel_rfl,?_⟩))
 (iterate 2((try simp(etaStruct := .none) (maxSteps:=1000000)only[push_cast,zad,seval,zae _ _ _ h,zae _ _ _ hb,zao,zbk,ew,ew2]);(try(refine xsu ?_;try exact xtI))))
 refine cI (fun h1=>?_) fun h1=>?_
 ·exfalso;omega
 ·(iterate 2((try simp(etaStruct := .none) (maxSteps:=1000000)only[push_cast,zad,seval,zae _ _ _ h,zae _ _ _ hb,zao,zbk,ew,ew2]);(try(refine xsu ?_;try exact xtI))))
  refine zcn [0,1,2,3] (z7h w (w.bases.getD d.who.toNat default) hw hbb c true ⟨fun c' hc'=>by rw[hc]at hc';exact⟨(Option.some.inj hc'),rfl⟩,fun hn=>by rw[hc]at hn;simp at hn⟩) (WkL.refl _) rfl (by decide) (by simp[za6,zdf,zjc]) ?_
  (iterate 2((try simp(etaStruct := .none) (maxSteps:=1000000)only[push_cast,zad,seval,zae _ _ _ h,zae _ _ _ hb,zao,zbk,ew,ew2]);(try(refine xsu ?_;try exact xtI))))
  (try(refine⟨by kernel_rfl,?_⟩))
  (iterate 2((try simp(etaStruct := .none) (maxSteps:=1000000)only[push_cast,zad,seval,zae _ _ _ h,zae _ _ _ hb,zao,zbk,ew,ew2]);(try(refine xsu ?_;try exact xtI))))
  refine cI (fun h2=>?_) fun h2=>?_
  ·exact absurd h2 (by decide)
  ·(iterate 2((try simp(etaStruct := .none) (maxSteps:=1000000)only[push_cast,zad,seval,zae _ _ _ h,zae _ _ _ hb,zao,zbk,ew,ew2]);(try(refine xsu ?_;try exact xtI))))
   (try(refine⟨by kernel_rfl,?_⟩))
   (iterate 2((try simp(etaStruct := .none) (maxSteps:=1000000)only[push_cast,zad,seval,zae _ _ _ h,zae _ _ _ hb,zao,zbk,ew,ew2]);(try(refine xsu ?_;try exact xtI))))
   (try(refine⟨by kernel_rfl,?_⟩))
   (iterate 2((try simp(etaStruct := .none) (maxSteps:=1000000)only[push_cast,zad,seval,zae _ _ _ h,zae _ _ _ hb,zao,zbk,ew,ew2]);(try(refine xsu ?_;try exact xtI))))
   refine zb9 [0,1,2,3,350] rfl rfl (by decide) ⟨?_,?_,?_,?_,?_,trivial⟩ trivial ?_
   ·simp(etaStruct := .none) (maxSteps:=1000000)only[push_cast,zad,seval,zd8]
   ·simp(etaStruct := .none) (maxSteps:=1000000)only[push_cast,zad,seval,zd8,List.map_set,zao]
   ·simp(etaStruct := .none) (maxSteps:=1000000)only[push_cast,zad,seval,zd8]
   ·simp(etaStruct := .none) (maxSteps:=1000000)only[push_cast,zad,seval,zd8]
   ·simp(etaStruct := .none) (maxSteps:=1000000)only[push_cast,zad,seval,zd8,List.map_append,zch]
   ·exact Wk.refl _
theorem zxo (w W:Wld) (d:Ded) (b:Bool) (h:d.kind=1) (M:Spec Tryz.prog 192 [.ptr 0 0 0,zl0 d] (zhf w) (B b) (zhf W)):Spec Tryz.prog 169 [.ptr 0 0 0,zl0 d] (zhf w) (B b) (zhf W):=by
 refine spB Tryz.func169 22 [.tmp 4] Tryz.results169 ?_
 try refine xst ?_
 refine cI (fun h1=>?_) fun h1=>?_
 ·try refine xst ?_
  refine caM [0,1,2,3] (M) ?_
  try refine xst ?_
  refine zb9 [0,1,2,3] rfl rfl (by decide) ⟨?_,?_,?_,?_,trivial⟩ trivial ?_<;>first|exact Wk.refl _|simp(etaStruct := .none)only[push_cast,zad,seval]
 ·exact absurd h h1
theorem zxn (w W:Wld) (d:Ded) (b:Bool) (h:d.kind=2) (M:Spec Tryz.prog 193 [.ptr 0 0 0,zl0 d] (zhf w) (B b) (zhf W)):Spec Tryz.prog 169 [.ptr 0 0 0,zl0 d] (zhf w) (B b) (zhf W):=by
 refine spB Tryz.func169 22 [.tmp 4] Tryz.results169 ?_
 try refine xst ?_
 refine cI (fun h1=>?_) fun h1=>?_
 ·exfalso;omega
 ·try refine xst ?_
  refine cI (fun h2=>?_) fun h2=>?_
  ·try refine xst ?_
   refine caM [0,1,2,3] (M) ?_
   try refine xst ?_
   refine zb9 [0,1,2,3] rfl rfl (by decide) ⟨?_,?_,?_,?_,trivial⟩ trivial ?_<;>first|exact Wk.refl _|simp(etaStruct := .none)only[push_cast,zad,seval]
  ·exact absurd h h2
theorem zxm (w:Wld) (d:Ded) (h:d.kind=3) (M:Spec Tryz.prog 194 [.ptr 0 0 0,zl0 d] (zhf w) (B false) (zhf w)):Spec Tryz.prog 169 [.ptr 0 0 0,zl0 d] (zhf w) (B false) (zhf w):=by
 refine spB Tryz.func169 22 [.tmp 4] Tryz.results169 ?_
 try refine xst ?_
 refine cI (fun h1=>?_) fun h1=>?_
 ·exfalso;omega
 ·try refine xst ?_
  refine cI (fun h2=>?_) fun h2=>?_
  ·exfalso;omega
  ·try refine xst ?_
   refine cI (fun h3=>?_) fun h3=>?_
   ·try refine xst ?_
    refine caM [0,1,2,3] (M) ?_
    try refine xst ?_
    refine zb9 [0,1,2,3] rfl rfl (by decide) ⟨?_,?_,?_,?_,trivial⟩ trivial ?_<;>first|exact Wk.refl _|simp(etaStruct := .none)only[push_cast,zad,seval]
   ·exact absurd h h3
theorem ygl (w:Wld) (d:Ded) (h:d.kind≠1∧d.kind≠2∧d.kind≠3):Spec Tryz.prog 169 [.ptr 0 0 0,zl0 d] (zhf w) (B false) (zhf w):=by
 refine spB Tryz.func169 22 [.tmp 4] Tryz.results169 ?_
 try refine xst ?_
 refine cI (fun h1=>?_) fun h1=>?_
 ·exfalso;omega
 ·try refine xst ?_
  refine cI (fun h2=>?_) fun h2=>?_
  ·exfalso;omega
  ·try refine xst ?_
   refine cI (fun h3=>?_) fun h3=>?_
   ·exfalso;omega
   ·try refine xst ?_
    refine zb9 [0,1,2,3] rfl rfl (by decide) ⟨?_,?_,?_,?_,trivial⟩ trivial ?_<;>first|exact Wk.refl _|simp(etaStruct := .none)only[push_cast,zad,seval]
theorem ygk (w W:Wld) (d:Ded) (h:d.kind=3) (M:Spec Tryz.prog 194 [.ptr 0 0 0,zl0 d] (zhf w) (B true) (z9m W)):Spec Tryz.prog 169 [.ptr 0 0 0,zl0 d] (zhf w) (B true) (z9m W):=by
 refine spB Tryz.func169 22 [.tmp 4] Tryz.results169 ?_
 try refine xst ?_
 refine cI (fun h1=>?_) fun h1=>?_
 ·exfalso;omega
 ·try refine xst ?_
  refine cI (fun h2=>?_) fun h2=>?_
  ·exfalso;omega
  ·try refine xst ?_
   refine cI (fun h3=>?_) fun h3=>?_
   ·try refine xst ?_
    refine caM [0,1,2,3] (M) ?_
    try refine xst ?_
    refine zb9 [0,1,2,3,5] rfl rfl (by decide) ⟨?_,?_,?_,?_,?_,trivial⟩ trivial ?_<;>first|exact Wk.refl _|simp(etaStruct := .none)only[push_cast,zad,seval]
   ·exact absurd h h3
theorem ygj (w:Wld) (d:Ded) (hw:Right w):Spec Tryz.prog 169 [.ptr 0 0 0,zl0 d] (zhf w) (B (zf6 w d).2) (zhf (zf6 w d).1)∨Spec Tryz.prog 169 [.ptr 0 0 0,zl0 d] (zhf w) (B (zf6 w d).2) (z9m (zf6 w d).1):=by
 unfold zf6
 split
 ·rename_i h
  split
  ·rename_i i hi
   split
   ·rename_i ho;exact .inl (zxo w _ d true h (z7d w d i hw hi true _ ⟨fun _=>⟨rfl,rfl⟩,fun h2=>by rw[ho]at h2;simp at h2⟩))
   ·rename_i ho;exact .inl (zxo w _ d false h (z7d w d i hw hi false _ ⟨fun h2=>absurd h2 ho,fun _=>⟨rfl,rfl⟩⟩))
  ·rename_i hi;exact .inl (zxo w _ d false h (z19 w d hw hi))
 ·split
  ·rename_i h
   split
   ·rename_i i hi
    split
    ·rename_i ho;exact .inl (zxn w _ d _ h (z7i w d i hw hi _ _ ⟨fun _=>⟨rfl,rfl⟩,fun h2=>by rw[ho]at h2;simp at h2⟩))
    ·rename_i ho;exact .inl (zxn w _ d false h (z7i w d i hw hi false _ ⟨fun h2=>absurd h2 ho,fun _=>⟨rfl,rfl⟩⟩))
   ·rename_i hi;exact .inl (zxn w _ d false h (z2a w d hw hi))
  ·split
   ·rename_i h
    split
    ·rename_i ho
     split
     ·rename_i c hc;exact .inr (ygk w _ d h (z7f w d hw ho c hc))
     ·rename_i hc
      have hoi:=hireOk_iff.1 ho
      exact .inl (zxm w d h (z0f w d hw (by have:=hw.sl;omega) (.inr hc)))
    ·rename_i ho
     rcases Nat.lt_or_ge d.who.toNat w.stocks.length with h2|h2
     ·exact .inl (zxm w d h (z0f w d hw h2 (.inl (by simpa using ho))))
     ·exact .inl (zxm w d h (z7g w d hw h2))
   ·exact .inl (ygl w d ⟨by assumption,by assumption,by assumption⟩)
theorem yjk (w:Wld) (hw:Right w):Spec Tryz.prog 168 [zcf w] [] (.agg [I .i64 w.f.w,I .i64 w.f.h,.c (.sl 1 (w.f.p.map zao)),.c (.sl 2 (w.bases.map zbk)),.own 0,.own 1,.own 2,I .i64 w.next,I .i64 w.now]) [stR w,miR w,trR w]:=by
 have h1:=hw.places
 have h2:=hw.nb
 have h3:=hw.sl
 have h4:=hw.ml
 have h5:=hw.nt
 refine spB Tryz.func168 26 [.cell 2 32] Tryz.results168 ?_
 try refine xst ?_
 refine caP (zm5 w.f.p (by omega)) ?_
 try refine xst ?_
 refine caP (z01 w.bases (by omega)) ?_
 try refine xst ?_
 refine caM [] (zbm w.stocks (by omega)) ?_
 try refine xst ?_
 (try(refine⟨by kernel_rfl,?_⟩))
 try refine xst ?_
 refine caM [] (zbm w.mines (by omega)) ?_
 try refine xst ?_
 refine caM [] (zcl w.troops (by omega)) ?_
 try refine xst ?_
 (try(refine⟨by kernel_rfl,?_⟩))
 try refine xst ?_
 refine zb9 [22,50,62] rfl rfl (by decide) ⟨?_,?_,?_,trivial⟩ ?_ ?_<;>first|exact Wk.refl _|(try simp(etaStruct := .none)only[push_cast,zad,seval])
theorem ypw (w:Wld) (l:List Ded) (hw:Right w) (hll:l.length≤200):Spec Tryz.prog 127 [zcf w,.c (.sl 5 (l.map zpk))] [] (.tup [zcf (zbp w l).1,.c (.sl 1 ((zbp w l).2.map zf9)),I .i64 0]) []:=by
 have he:=hw.e
 refine spB Tryz.func127 40 [.cell 4 32,.tmp 5,.tmp 6] Tryz.results127 ?_
 try refine xst ?_
 refine caP (zeh w hw.l) ?_
 try refine xst ?_
 refine cI (fun h1=>?_) fun h1=>?_
 ·exact absurd he h1
 ·try refine xst ?_
  refine cI (fun h2=>?_) fun h2=>?_
  ·omega
  ·try refine xst ?_
   refine caM [] (yjk w hw) ?_
   try refine xst ?_
   refine zay (fun k:Nat=>⟨[(27,I .i64 k),(26,I .i64 l.length),(25,.c (.sl 5 (l.map zpk))),(9,.own 5),(8,.ptr 1 0 0),(4,.ptr 0 0 0)],[(0,.blk 32 [I .i64 0,I .i64 0,.c (.v (.slice none 0 0)),.c (.v (.slice none 0 0)),.c (.v (.slice none 0 0)),.c (.v (.slice none 0 0)),.c (.v (.slice none 0 0)),I .i64 0,I .i64 0]),(1,.blk 241 (z9n (zbp w (l.take k)).1 2 3 4)),(2,stR (zbp w (l.take k)).1),(3,miR (zbp w (l.take k)).1),(4,trR (zbp w (l.take k)).1),(5,.row 4 1 ((zbp w (l.take k)).2.map zf9))],6⟩) (fun k:Nat=>k≤l.length) (fun k:Nat=>l.length-k) (0) (Nat.zero_le _) ((To.nil 9 4 1 rfl).trans (To.mk [1,5,2,3,4,6] rfl rfl (by decide) ?_ ?_)) ?_
   ·simp(etaStruct := .none)only[push_cast,zad,seval,List.take_zero,zbp]
   ·exact xS
   rintro k hk
   try refine xst ?_
   refine cI (fun h3=>?_) fun h3=>?_
   ·have hlt:k<l.length:=by omega
    obtain⟨d,hd⟩:∃d,d=l.getD k default:=⟨_,rfl⟩
    have hst:zbp w (l.take (k+1))=((zf6 (zbp w (l.take k)).1 d).1,(zbp w (l.take k)).2 ++ [(zf6 (zbp w (l.take k)).1 d).2]):=by rw[zak _ _ hlt,←hd,zo9]
    have hR:=zjm (l.take k) hw
    have hbl:=zlz (l.take k) w
    rw[List.length_take]at hbl
    generalize (zbp w (l.take k)).1=W at *
    generalize (zbp w (l.take k)).2=bs at *
    try refine xz3 (gd hlt) hd.symm zjg ?_
    rcases ygj W d hR with M|M
    ·refine zcn [1,2,3,4] M (WkL.refl _) rfl (by decide) (by simp[za6]) ?_
     try refine xz1 zbg ?_
     refine⟨k+1,by omega,by omega,To.mk [0,1,2,3,4,8] rfl rfl (by decide) ?_ ?_⟩
     ·(try(refine xz3 hst zbg Qp ?_;try exact xtI))
     ·(try(refine xst ?_;try exact xtI))
    ·refine zcn [1,2,3,4] M (WkL.refl _) rfl (by decide) (by simp[za6]) ?_
     try refine xz1 zbg ?_
     refine⟨k+1,by omega,by omega,To.mk [0,1,2,3,7,9] rfl rfl (by decide) ?_ ?_⟩
     ·(try(refine xz3 hst zbg Qp ?_;try exact xtI))
     ·(try(refine xst ?_;try exact xtI))
   ·obtain rfl:k=l.length:=by omega
    try refine xz1 Qx ?_
    exact xrz rfl
theorem ycm (o:Ord) (b:List Blw) (g:List Gop) (d:List Ded) (h:o.kind=1) (hb:b.length≤1000) :
 Spec Tryz.prog 163 [.ptr 0 0 0,zmu o] [.blk 235 [.own 1,.own 2,.own 3],.row 156 2 (b.map zi5),.row 158 3 (g.map zio),.row 160 5 (d.map zpk)] (.tup [])
  [.blk 235 [.own 4,.own 2,.own 3],.dead,.row 158 3 (g.map zio),.row 160 5 (d.map zpk),.row 156 2 ((b ++ [(⟨o.who,o.what⟩:Blw)]).map zi5)]:=by
 refine spB Tryz.func163 84 [] Tryz.results163 ?_
 try refine xst ?_
 refine cI (fun h1=>?_) fun h1=>?_
 ·try refine xst ?_
  (try(refine⟨by kernel_rfl,?_⟩))
  try refine xst ?_
  refine zb9 [0,1,2,3,49] rfl rfl (by decide) ⟨?_,?_,?_,?_,?_,trivial⟩ trivial ?_
  ·exact xS
  ·exact xS
  ·exact xS
  ·exact xS
  ·exact xS2 zcu Qp
  ·exact xS
 ·omega
theorem ykc (o:Ord) (b:List Blw) (g:List Gop) (d:List Ded) (h:o.kind=2) (hb:g.length≤1000) :
 Spec Tryz.prog 163 [.ptr 0 0 0,zmu o] [.blk 235 [.own 1,.own 2,.own 3],.row 156 2 (b.map zi5),.row 158 3 (g.map zio),.row 160 5 (d.map zpk)] (.tup [])
  [.blk 235 [.own 1,.own 4,.own 3],.row 156 2 (b.map zi5),.dead,.row 160 5 (d.map zpk),.row 158 3 ((g ++ [(⟨o.who,o.c⟩:Gop)]).map zio)]:=by
 refine spB Tryz.func163 84 [] Tryz.results163 ?_
 try refine xst ?_
 refine cI (fun h1=>?_) fun h1=>?_
 ·omega
 ·try refine xst ?_
  refine cI (fun h2=>?_) fun h2=>?_
  ·try refine xst ?_
   (try(refine⟨by kernel_rfl,?_⟩))
   try refine xst ?_
   refine zb9 [0,1,2,3,49] rfl rfl (by decide) ⟨?_,?_,?_,?_,?_,trivial⟩ trivial ?_
   ·exact xS
   ·exact xS
   ·exact xS
   ·exact xS
   ·exact xS2 zb0 Qp
   ·exact xS
  ·omega
theorem ycj (o:Ord) (b:List Blw) (g:List Gop) (d:List Ded) (h:o.kind=3) (hb:d.length≤1000) :
 Spec Tryz.prog 163 [.ptr 0 0 0,zmu o] [.blk 235 [.own 1,.own 2,.own 3],.row 156 2 (b.map zi5),.row 158 3 (g.map zio),.row 160 5 (d.map zpk)] (.tup [])
  [.blk 235 [.own 1,.own 2,.own 4],.row 156 2 (b.map zi5),.row 158 3 (g.map zio),.dead,.row 160 5 ((d ++ [(⟨1,o.who,o.c,0⟩:Ded)]).map zpk)]:=by
 refine spB Tryz.func163 84 [] Tryz.results163 ?_
 try refine xst ?_
 refine cI (fun h1=>?_) fun h1=>?_
 ·omega
 ·try refine xst ?_
  refine cI (fun h2=>?_) fun h2=>?_
  ·omega
  ·try refine xst ?_
   refine cI (fun h3=>?_) fun h3=>?_
   ·try refine xst ?_
    (try(refine⟨by kernel_rfl,?_⟩))
    try refine xst ?_
    refine zb9 [0,1,2,3,49] rfl rfl (by decide) ⟨?_,?_,?_,?_,?_,trivial⟩ trivial ?_
    ·exact xS
    ·exact xS
    ·exact xS
    ·exact xS
    ·exact xS2 zjg Qp
    ·exact xS
   ·omega
theorem ycl (o:Ord) (b:List Blw) (g:List Gop) (d:List Ded) (h:o.kind=4) (hb:d.length≤1000) :
 Spec Tryz.prog 163 [.ptr 0 0 0,zmu o] [.blk 235 [.own 1,.own 2,.own 3],.row 156 2 (b.map zi5),.row 158 3 (g.map zio),.row 160 5 (d.map zpk)] (.tup [])
  [.blk 235 [.own 1,.own 2,.own 4],.row 156 2 (b.map zi5),.row 158 3 (g.map zio),.dead,.row 160 5 ((d ++ [(⟨2,o.who,⟨0,0⟩,0⟩:Ded)]).map zpk)]:=by
 refine spB Tryz.func163 84 [] Tryz.results163 ?_
 try refine xst ?_
 refine cI (fun h1=>?_) fun h1=>?_
 ·omega
 ·try refine xst ?_
  refine cI (fun h2=>?_) fun h2=>?_
  ·omega
  ·try refine xst ?_
   refine cI (fun h3=>?_) fun h3=>?_
   ·omega
   ·try refine xst ?_
    refine cI (fun h4=>?_) fun h4=>?_
    ·try refine xst ?_
     (try(refine⟨by kernel_rfl,?_⟩))
     try refine xst ?_
     refine zb9 [0,1,2,3,41] rfl rfl (by decide) ⟨?_,?_,?_,?_,?_,trivial⟩ trivial ?_
     ·exact xS
     ·exact xS
     ·exact xS
     ·exact xS
     ·exact xS2 zjg Qp
     ·exact xS
    ·omega
theorem yck (o:Ord) (b:List Blw) (g:List Gop) (d:List Ded) (h:o.kind=5) (hb:d.length≤1000) :
 Spec Tryz.prog 163 [.ptr 0 0 0,zmu o] [.blk 235 [.own 1,.own 2,.own 3],.row 156 2 (b.map zi5),.row 158 3 (g.map zio),.row 160 5 (d.map zpk)] (.tup [])
  [.blk 235 [.own 1,.own 2,.own 4],.row 156 2 (b.map zi5),.row 158 3 (g.map zio),.dead,.row 160 5 ((d ++ [(⟨3,o.by_,⟨0,0⟩,o.what⟩:Ded)]).map zpk)]:=by
 refine spB Tryz.func163 84 [] Tryz.results163 ?_
 try refine xst ?_
 refine cI (fun h1=>?_) fun h1=>?_
 ·omega
 ·try refine xst ?_
  refine cI (fun h2=>?_) fun h2=>?_
  ·omega
  ·try refine xst ?_
   refine cI (fun h3=>?_) fun h3=>?_
   ·omega
   ·try refine xst ?_
    refine cI (fun h4=>?_) fun h4=>?_
    ·omega
    ·try refine xst ?_
     refine cI (fun h5=>?_) fun h5=>?_
     ·try refine xst ?_
      (try(refine⟨by kernel_rfl,?_⟩))
      try refine xst ?_
      refine zb9 [0,1,2,3,49] rfl rfl (by decide) ⟨?_,?_,?_,?_,?_,trivial⟩ trivial ?_
      ·exact xS
      ·exact xS
      ·exact xS
      ·exact xS
      ·exact xS2 zjg Qp
      ·exact xS
     ·omega
def OwnM (w:Wld) (k:Nat) (es:List (List Int × Int)):Prop:=(∀i:Int,zos [i] es=(w.troops.take k).any fun t=>decide (t.id=i))∧∀j,j<k→zd6 [(w.troops.getD j default).id] es=(w.troops.getD j default).owner
theorem OwnM.step {w:Wld} (hw:zap w=0) {k:Nat} {es:List (List Int × Int)} (h:OwnM w k es) (hk:k<w.troops.length):OwnM w (k+1) (zij [(w.troops.getD k default).id] (w.troops.getD k default).owner es):=by
 refine⟨fun i=>?_,fun j hj=>?_⟩
 ·rw[zor,zak _ _ hk,List.any_append,h.1 i]
  simp only[List.any_cons,List.any_nil,Bool.or_false,List.cons.injEq,and_true]
  by_cases hi:i=(w.troops.getD k default).id
  ·rw[if_pos hi,decide_eq_true hi.symm,Bool.or_true]
  ·rw[if_neg hi,decide_eq_false (Ne.symm hi),Bool.or_false]
 ·rw[zc1]
  by_cases hjk:j=k
  ·subst hjk;rw[if_pos rfl]
  ·have h2:=(zgt hw hk).2
   unfold z3q at h2
   rw[ztc,bJ]at h2
   have:=(zb5 _ _).1 h2.1 j (by omega)
   rw[decide_eq_true_eq]at this
   rw[if_neg (fun h=>by have:=(List.cons.inj h).1;omega)]
   exact h.2 j (by omega)
theorem OwnM.find {w:Wld} {es:List (List Int × Int)} (h:OwnM w w.troops.length es) (i b:Int):(zos [i] es&&decide (zd6 [i] es=b))=match zcc w i with|some t=>decide (t.owner=b)|none=>false:=by
 have h1:=h.1 i
 rw[List.take_length]at h1
 unfold zcc
 cases hf:w.troops.find? (fun t=>decide (t.id=i))with
 | none =>
  have:(w.troops.any fun t=>decide (t.id=i))=false:=by
   rw[List.any_eq_false];intro x hx;simpa using List.find?_eq_none.1 hf x hx
  rw[h1,this];rfl
 | some t =>
  have hm:=List.mem_of_find?_eq_some hf
  have hp:=List.find?_some hf
  rw[decide_eq_true_eq]at hp
  have:(w.troops.any fun t=>decide (t.id=i))=true:=by
   rw[List.any_eq_true];exact⟨t,hm,by simpa using hp⟩
  obtain⟨j,hj,rfl⟩:=List.getElem_of_mem hm
  have h2:=h.2 j hj
  rw[zaq _ _ hj,hp]at h2
  rw[h1,this,h2];rfl
def zci (l:List Ord) (w:Wld):Int:=if zev l≠0 then zev l else zap w
theorem zth {o:Ord} (h:o.kind≠1):zyc o = []:=by unfold zyc;rw[if_neg h]
theorem ztd {o:Ord} (h:o.kind≠2):zyb o = []:=by unfold zyb;rw[if_neg h]
theorem z8q {o:Ord} (h:¬2<o.kind):ztg o = []:=by unfold ztg;rw[if_neg h]
theorem yki {o:Ord} (h:o.kind=1):zyc o = [⟨o.who,o.what⟩]:=by unfold zyc;rw[if_pos h]
theorem yke {o:Ord} (h:o.kind=2):zyb o = [⟨o.who,o.c⟩]:=by unfold zyb;rw[if_pos h]
theorem ykh {o:Ord} (ho:zii o=0) (h:o.kind=3):ztg o = [⟨1,o.who,o.c,0⟩]:=by
 have:=zoj ho
 unfold ztg zvu;rw[if_pos (by omega),h,if_neg (by decide),this.2.2.2.2.2.2.2 (by omega) (by omega)];rfl
theorem ykg {o:Ord} (ho:zii o=0) (h:o.kind=4):ztg o = [⟨2,o.who,⟨0,0⟩,0⟩]:=by
 have:=zoj ho
 unfold ztg zvu;rw[if_pos (by omega),h,if_neg (by decide),this.2.2.2.2.2.2.2 (by omega) (by omega),this.2.2.2.2.2.2.1 (by omega) (by omega)];rfl
theorem ykf {o:Ord} (ho:zii o=0) (h:o.kind=5):ztg o = [⟨3,o.by_,⟨0,0⟩,o.what⟩]:=by
 have:=zoj ho
 unfold ztg zvu;rw[if_pos (by omega),h,if_pos rfl,this.2.2.2.2.2.2.1 (by omega) (by omega)];rfl
theorem z30 (l:List Ord) (w:Wld) (hll:l.length≤9223372036854775807) (hl:zd4 w) (h:zci l w≠0):Spec Tryz.prog 124 [.c (.sl 6 (l.map zga)),zcf w] [] (.tup [.c (.v (.slice none 0 0)),.c (.v (.slice none 0 0)),.c (.v (.slice none 0 0)),I .i64 (zci l w)]) []:=by
 refine spB Tryz.func124 82 [.tmp 4,.tmp 5,.tmp 6,.tmp 7] Tryz.results124 ?_
 try refine xst ?_
 refine caP (yc0 l hll) ?_
 try refine xst ?_
 refine cI (fun h1=>?_) fun h1=>?_
 ·have e:zci l w=zev l:=by unfold zci;rw[if_pos h1]
  try refine xst ?_
  exact zcw e rfl
 ·try refine xst ?_
  refine caP (zeh w hl) ?_
  try refine xst ?_
  refine cI (fun h2=>?_) fun h2=>?_
  ·have e:zci l w=zap w:=by unfold zci;rw[if_neg (by simpa using h1)]
   try refine xst ?_
   exact zcw e rfl
  ·exact absurd (by unfold zci;rw[if_neg (by simpa using h1)];exact h2) h
theorem z3z (l:List Ord) (w:Wld) (hll:l.length≤9223372036854775807) (hl:zd4 w) (ho:zev l=0) (hw:zap w=0):Spec Tryz.prog 124 [.c (.sl 6 (l.map zga)),zcf w] [] (.tup [.c (.sl 2 ((zb1 l w).map zi5)),.c (.sl 3 ((zcz l w).map zio)),.c (.sl 5 ((zb4 l w).map zpk)),I .i64 0]) []:=by
 obtain⟨ho1,ho2⟩:=zrz ho
 obtain⟨w1,w2,w3,w4,w5⟩:=zcr hw
 refine spB Tryz.func124 82 [.tmp 4,.tmp 5,.tmp 6,.tmp 7] Tryz.results124 ?_
 try refine xst ?_
 refine caP (yc0 l hll) ?_
 try refine xst ?_
 refine cI (fun h1=>?_) fun h1=>?_
 ·exact absurd ho h1
 ·try refine xst ?_
  refine caP (zeh w hl) ?_
  try refine xst ?_
  refine cI (fun h2=>?_) fun h2=>?_
  ·exact absurd hw h2
  ·try refine xst ?_
   refine zay (fun x:Nat × List (List Int × Int)=>⟨[(32,I .i64 x.1),(31,I .i64 w.troops.length),(30,.c (.sl 7 (w.troops.map zch))),(10,.map 1),(3,.ptr 0 0 0),(0,.c (.sl 6 (l.map zga)))],[(0,.blk 32 (zhe w)),(1,.mp false 1 x.2)],2⟩) (fun x:Nat × List (List Int × Int)=>x.1≤w.troops.length∧OwnM w x.1 x.2) (fun x:Nat × List (List Int × Int)=>w.troops.length-x.1) ((0,[])) (⟨Nat.zero_le _,fun i=>rfl,fun j h=>absurd h (Nat.not_lt_zero _)⟩) (To.mk [0,1] rfl rfl (by decide) ?_ ?_) ?_
   ·exact xS
   ·exact xS
   rintro⟨k,es⟩ ⟨hk,hn⟩
   simp only at hk hn
   try refine xst ?_
   refine cI (fun h3=>?_) fun h3=>?_
   ·have hlt:k<w.troops.length:=by omega
    try refine xz2 (gd hlt) zac ?_
    refine⟨(k+1,zij [(w.troops.getD k default).id] (w.troops.getD k default).owner es),⟨by simp only;omega,hn.step hw hlt⟩,by simp only;omega,To.mk [0,1] rfl rfl (by decide) ?_ ?_⟩
    ·(try(refine xz2 (gd hlt) zac ?_;try exact xtI))
    ·(try(refine xz2 (gd hlt) zac ?_;try exact xtI))
   ·obtain rfl:k=w.troops.length:=by omega
    have of:=hn.find
    try refine xst ?_
    refine zay (fun k:Nat=>⟨[(44,I .i64 k),(43,I .i64 l.length),(42,.c (.sl 6 (l.map zga))),(13,.ptr 2 0 0),(10,.map 1),(3,.ptr 0 0 0)],[(0,.blk 32 (zhe w)),(1,.mp false 1 es),(2,.blk 235 [.own 3,.own 4,.own 5]),(3,.row 156 2 ((zb1 (l.take k) w).map zi5)),(4,.row 158 3 ((zcz (l.take k) w).map zio)),(5,.row 160 5 ((zb4 (l.take k) w).map zpk))],6⟩) (fun k:Nat=>k≤l.length) (fun k:Nat=>l.length-k) (0) (Nat.zero_le _) (((To.nilC 2 0 156 2 235 _ rfl rfl).trans ((To.nilC 2 1 158 3 235 _ rfl rfl).trans (To.nilC 2 2 160 5 235 _ rfl rfl))).trans (To.mk [0,1,2,3,4,5] rfl rfl (by decide) ?_ ?_)) ?_
    ·simp(etaStruct := .none)only[push_cast,zad,seval,List.set_cons_zero,List.set_cons_succ,zb1,zcz,zb4,List.filter_nil,List.flatMap_nil]
    ·exact xS
    rintro k hk
    try refine xst ?_
    refine cI (fun h4=>?_) fun h4=>?_
    ·have hlt:k<l.length:=by omega
     have hor:=ho2 _ (zax l k hlt)
     have hok:=zoj hor
     have st1:=zgp (fun o=>zce o w) zyc l k hlt
     have st2:=zgp (fun o=>zce o w) zyb l k hlt
     have st3:=zgp (fun o=>zce o w) ztg l k hlt
     have fl1:=zei (fun o=>zce o w) zyc zti (l.take k)
     have fl2:=zei (fun o=>zce o w) zyb zte (l.take k)
     have fl3:=zei (fun o=>zce o w) ztg ztf (l.take k)
     rw[List.length_take]at fl1 fl2 fl3
     change zb1 (l.take (k+1)) w=zb1 (l.take k) w++_ at st1
     change zcz (l.take (k+1)) w=zcz (l.take k) w++_ at st2
     change zb4 (l.take (k+1)) w=zb4 (l.take k) w++_ at st3
     change (zb1 (l.take k) w).length≤_ at fl1
     change (zcz (l.take k) w).length≤_ at fl2
     change (zb4 (l.take k) w).length≤_ at fl3
     try refine xz2 (gd hlt) zbi ?_
     refine zf1 (fun x:Int × Bool=>⟨[(44,I .i64 k),(43,I .i64 l.length),(42,.c (.sl 6 (l.map zga))),(17,B x.2),(16,I .i64 x.1),(15,.ptr 6 0 0),(13,.ptr 2 0 0),(10,.map 1),(3,.ptr 0 0 0)],[(0,.blk 32 (zhe w)),(1,.mp false 1 es),(2,.blk 235 [.own 3,.own 4,.own 5]),(3,.row 156 2 ((zb1 (l.take k) w).map zi5)),(4,.row 158 3 ((zcz (l.take k) w).map zio)),(5,.row 160 5 ((zb4 (l.take k) w).map zpk)),(6,.blk 74 [I .i64 (l.getD k default).by_,I .i64 (l.getD k default).kind,I .i64 (l.getD k default).who,I .i64 (l.getD k default).c.x,I .i64 (l.getD k default).c.y,I .i64 (l.getD k default).what])],7⟩) (fun x:Int × Bool=>(x.2&&decide (x.1=(l.getD k default).by_))=zce (l.getD k default) w) (fun h5=>?_) (fun h5=>?_) ?_
     ·(try replace h5:=xhh h5)
      try refine xz2 (gd hlt) zbi ?_
      (try(refine⟨by kernel_rfl,?_⟩))
      try refine xz2 (gd hlt) zbi ?_
      refine⟨((l.getD k default).by_,decide ((l.getD k default).by_<w.bases.length)),by unfold zce;rw[if_pos h5];simp,To.mk [0,1,2,3,4,5,6] rfl rfl (by decide) ?_ ?_⟩
      ·(try(refine xz2 (gd hlt) zbi ?_;try exact xtI))
      ·(try(refine xz2 (gd hlt) zbi ?_;try exact xtI))
     ·(try replace h5:=xhh h5)
      try refine xz2 (gd hlt) zbi ?_
      refine⟨(zd6 [(l.getD k default).who] es,zos [(l.getD k default).who] es),by rw[of];unfold zce;rw[if_neg h5];cases zcc w (l.getD k default).who<;>rfl,To.mk [0,1,2,3,4,5,6] rfl rfl (by decide) ?_ ?_⟩
      ·(try(refine xz2 (gd hlt) zbi ?_;try exact xtI))
      ·(try(refine xz2 (gd hlt) zbi ?_;try exact xtI))
     ·rintro⟨by1,ok1⟩ hx
      simp only at hx
      try refine xz2 (gd hlt) zbi ?_
      refine cI (fun h6=>?_) fun h6=>?_
      ·have ha:zce (l.getD k default) w=true:=by rw[←hx];simp only[h6.1,h6.2,decide_true,Bool.and_self]
       rw[if_pos ha]at st1 st2 st3
       try refine xz2 (gd hlt) zbi ?_
       have hkind:(l.getD k default).kind=1∨(l.getD k default).kind=2∨(l.getD k default).kind=3∨(l.getD k default).kind=4∨(l.getD k default).kind=5:=by omega
       rcases hkind with h|h|h|h|h
       ·rw[yki h]at st1;rw[ztd (by omega)]at st2;rw[z8q (by omega)]at st3
        refine zcn [2,3,4,5] (ycm (l.getD k default) (zb1 (l.take k) w) (zcz (l.take k) w) (zb4 (l.take k) w) h (by omega)) (WkL.refl _) rfl (by decide) (by simp[za6]) ?_
        try refine xz2 (gd hlt) zbi ?_
        refine⟨k+1,by omega,by omega,To.mk [0,1,2,7,4,5] rfl rfl (by decide) ?_ ?_⟩
        ·(try(refine xz5 st1 st2 st3 zcu QB6 ?_;try exact xtI))
        ·(try(refine xst ?_;try exact xtI))
       ·rw[zth (by omega)]at st1;rw[yke h]at st2;rw[z8q (by omega)]at st3
        refine zcn [2,3,4,5] (ykc (l.getD k default) (zb1 (l.take k) w) (zcz (l.take k) w) (zb4 (l.take k) w) h (by omega)) (WkL.refl _) rfl (by decide) (by simp[za6]) ?_
        try refine xz2 (gd hlt) zbi ?_
        refine⟨k+1,by omega,by omega,To.mk [0,1,2,3,7,5] rfl rfl (by decide) ?_ ?_⟩
        ·(try(refine xz5 st1 st2 st3 zb0 QB6 ?_;try exact xtI))
        ·(try(refine xst ?_;try exact xtI))
       ·rw[zth (by omega)]at st1;rw[ztd (by omega)]at st2;rw[ykh hor h]at st3
        refine zcn [2,3,4,5] (ycj (l.getD k default) (zb1 (l.take k) w) (zcz (l.take k) w) (zb4 (l.take k) w) h (by omega)) (WkL.refl _) rfl (by decide) (by simp[za6]) ?_
        try refine xz2 (gd hlt) zbi ?_
        refine⟨k+1,by omega,by omega,To.mk [0,1,2,3,4,7] rfl rfl (by decide) ?_ ?_⟩
        ·(try(refine xz5 st1 st2 st3 zjg QB6 ?_;try exact xtI))
        ·(try(refine xst ?_;try exact xtI))
       ·rw[zth (by omega)]at st1;rw[ztd (by omega)]at st2;rw[ykg hor h]at st3
        refine zcn [2,3,4,5] (ycl (l.getD k default) (zb1 (l.take k) w) (zcz (l.take k) w) (zb4 (l.take k) w) h (by omega)) (WkL.refl _) rfl (by decide) (by simp[za6]) ?_
        try refine xz2 (gd hlt) zbi ?_
        refine⟨k+1,by omega,by omega,To.mk [0,1,2,3,4,7] rfl rfl (by decide) ?_ ?_⟩
        ·(try(refine xz5 st1 st2 st3 zjg QB6 ?_;try exact xtI))
        ·(try(refine xst ?_;try exact xtI))
       ·rw[zth (by omega)]at st1;rw[ztd (by omega)]at st2;rw[ykf hor h]at st3
        refine zcn [2,3,4,5] (yck (l.getD k default) (zb1 (l.take k) w) (zcz (l.take k) w) (zb4 (l.take k) w) h (by omega)) (WkL.refl _) rfl (by decide) (by simp[za6]) ?_
        try refine xz2 (gd hlt) zbi ?_
        refine⟨k+1,by omega,by omega,To.mk [0,1,2,3,4,7] rfl rfl (by decide) ?_ ?_⟩
        ·(try(refine xz5 st1 st2 st3 zjg QB6 ?_;try exact xtI))
        ·(try(refine xst ?_;try exact xtI))
      ·have ha:zce (l.getD k default) w=false:=by
        rw[←hx]
        rcases h6 with h|h
        ·rw[h];rfl
        ·rw[decide_eq_false h,Bool.and_false]
       rw[ha]at st1 st2 st3
       simp only[Bool.false_eq_true,if_false,List.append_nil]at st1 st2 st3
       try refine xz2 (gd hlt) zbi ?_
       refine⟨k+1,by omega,by omega,To.mk [0,1,2,3,4,5] rfl rfl (by decide) ?_ ?_⟩
       ·(try(refine xz3 st1 st2 st3 ?_;try exact xtI))
       ·(try(refine xz2 (gd hlt) zbi ?_;try exact xtI))
    ·obtain rfl:k=l.length:=by omega
     try refine xz1 Qx ?_
     (try(refine⟨by kernel_rfl,?_⟩))
     try refine xz1 Qx ?_
     exact xrz rfl
theorem z7z (w:Wld) (d:Ded):(zf6 w d).1.now=w.now:=by
 unfold zf6
 repeat' split
 all_goals rfl
theorem z2i (l:List Ded):∀w,(zbp w l).1.now=w.now:=by
 induction l with
 | nil=>intro w;rfl
 | cons a r ih=>intro w;rw[zbp,ih,z7z]
def tkA (w:Wld) (l:List Ord):Wld:=zhs w (zb1 l w)
def tkB (WR:Cel→List Int) (w:Wld) (l:List Ord):Wld:=z2v (tkA w l) (zff w.f WR (zcz l w) (tkA w l).troops).1
def tkC (WR:Cel→List Int) (w:Wld) (l:List Ord):Wld:=(zbp (tkB WR w l) (zb4 l w)).1
def yam (w:Wld):Wld:={ w with now:=w.now+1 }
def zj6 (WR:Cel→List Int) (w:Wld) (l:List Ord):Wld:=yam (tkC WR w l)
def zk8 (w:Wld) (l:List Ord):List Int:=zvi w (zb1 l w)
def znm (WR:Cel→List Int) (w:Wld) (l:List Ord):List Int:=(zff w.f WR (zcz l w) (tkA w l).troops).2
def zme (WR:Cel→List Int) (w:Wld) (l:List Ord):List Bool:=(zbp (tkB WR w l) (zb4 l w)).2
def zck (l:List Ord) (w:Wld):Int:=if zci l w≠0 then zci l w else if 1000000≤w.now then 6 else 0
theorem zgf {l:List Ord} {w:Wld} (h:zci l w=0):zev l=0∧zap w=0:=by
 have ho:zev l=0:=by
  unfold zci at h
  split at h
  ·rename_i h1;exact absurd h h1
  ·rename_i h1;simpa using h1
 exact⟨ho,by unfold zci at h;rwa [if_neg (by simp[ho])]at h⟩
theorem zla {l:List Ord} {w:Wld} (h:zev l=0):(zb1 l w).length≤100∧(zcz l w).length≤100∧(zb4 l w).length≤100:=by
 obtain⟨o1,o2⟩:=zrz h
 have f1:=zei (fun o=>zce o w) zyc zti l
 have f2:=zei (fun o=>zce o w) zyb zte l
 have f3:=zei (fun o=>zce o w) ztg ztf l
 change (zb1 l w).length≤_ at f1
 change (zcz l w).length≤_ at f2
 change (zb4 l w).length≤_ at f3
 omega
theorem zht {w:Wld} (h:Right w) (l:List Ord):Right (tkA w l):=zua h _ fun id=>(zxl w _ id).1
theorem zn7 {w:Wld} (h:Right w) {WR:Cel→List Int} (hWR:∀a,zbu w.f [a] (WR a)) (l:List Ord):Right (tkB WR w l):=zrt (w:=tkA w l) (zht h l) hWR _
theorem zn6 {w:Wld} (h:Right w) {WR:Cel→List Int} (hWR:∀a,zbu w.f [a] (WR a)) (l:List Ord):Right (tkC WR w l):=zjm _ (zn7 h hWR l)
theorem zwo (WR:Cel→List Int) (w:Wld) (l:List Ord):(tkC WR w l).now=w.now:=by unfold tkC;rw[z2i];rfl
theorem zwu {w:Wld} (h:Right w) (hn:w.now<1000000):Right (yam w):=by
 have:=h.nw
 refine⟨h.f,h.nb,h.nt,h.sl,h.ml,h.nx,?_,h.base,h.mine,fun k hk=>?_,h.ord⟩
 ·change 0≤w.now+1∧w.now+1≤1000000;omega
 ·have t:=h.trp k hk
  exact⟨t.kind,t.id,t.owner,t.at_,t.x,t.y,t.life,t.load⟩
theorem z1i {w:Wld} (h:Right w) {WR:Cel→List Int} (hWR:∀a,zbu w.f [a] (WR a)) (l:List Ord) (hn:w.now<1000000):Right (zj6 WR w l):=zwu (zn6 h hWR l) (by rw[zwo];exact hn)
abbrev z93 (g m:List Int) (d:List Bool):AV := .agg [.c (.sl 1 (g.map zao)),.c (.sl 1 (m.map zao)),.c (.sl 1 (d.map zf9))]
theorem z3m (w:Wld) (l:List Ord) (WR:Cel→List Int) (hWR:∀a,zbu w.f [a] (WR a)) (hll:l.length≤9223372036854775807) (h:zck l w=0):Spec Tryz.prog 87 [zcf w,.c (.sl 6 (l.map zga))] [] (.tup [zcf (zj6 WR w l),z93 (zk8 w l) (znm WR w l) (zme WR w l),I .i64 0]) []:=by
 have hs:zci l w=0:=by unfold zck at h;split at h;rename_i h1;exact absurd h h1;rename_i h1;simpa using h1
 have hn:w.now<1000000:=by unfold zck at h;rw[if_neg (by simp[hs])]at h;split at h;exact absurd h (by decide);omega
 obtain⟨ho,hw⟩:=zgf hs
 have R0:=zdz hw
 have RA:=zht R0 l
 have RB:=zn7 R0 hWR l
 have RC:=zn6 R0 hWR l
 obtain⟨n1,n2,n3⟩:=zla (w:=w) ho
 have hnow:(tkC WR w l).now=w.now:=zwo WR w l
 have hnw:=R0.nw
 have e1:zcs w (zb1 l w)=0:=by unfold zcs;rw[if_neg (by simp[hw]),if_neg (by omega)]
 have HK:=z6w w (zb1 l w) R0.l (by omega) e1
 rw[e1,show zns w (zb1 l w)=tkA w l from by unfold zns;rw[if_pos e1];rfl,show z7c w (zb1 l w)=zk8 w l from by unfold z7c;rw[if_pos e1];rfl]at HK
 have e2:znu (tkA w l) (zcz l w)=0:=by unfold znu;rw[if_neg (by simp[RA.e]),if_neg (by omega)]
 have MK:=yas (tkA w l) (zcz l w) WR hWR RA.l (by omega)
 rw[e2,if_pos rfl,if_pos rfl,show z2v (tkA w l) (zff (tkA w l).f WR (zcz l w) (tkA w l).troops).1=tkB WR w l from rfl,show (zff (tkA w l).f WR (zcz l w) (tkA w l).troops).2=znm WR w l from rfl]at MK
 have DK:=ypw (tkB WR w l) (zb4 l w) RB (by omega)
 rw[show (zbp (tkB WR w l) (zb4 l w)).1=tkC WR w l from rfl,show (zbp (tkB WR w l) (zb4 l w)).2=zme WR w l from rfl]at DK
 have hup:IntKind.i64.wrap ((tkC WR w l).now+1)=w.now+1:=by rw[hnow];exact zaj _ (by omega) (by omega)
 have htv:zj6 WR w l = { tkC WR w l with now:=w.now+1 }:=by unfold zj6 yam;rw[hnow]
 rw[htv]
 refine spB Tryz.func87 62 [.cell 4 32,.cell 5 95,.tmp 6] Tryz.results87 ?_
 try refine xst ?_
 refine caP (z3z l w hll R0.l ho hw) ?_
 try refine xst ?_
 refine cI (fun h1=>?_) fun h1=>?_
 ·omega
 ·try refine xst ?_
  refine cI (fun h2=>?_) fun h2=>?_
  ·simp at h2
  ·try refine xz1 hup ?_
   refine caP (HK) ?_
   try refine xz1 hup ?_
   refine caP (MK) ?_
   try refine xz1 hup ?_
   refine caP (DK) ?_
   try refine xz1 hup ?_
   (try(refine⟨by kernel_rfl,?_⟩))
   try refine xz1 hup ?_
   exact xrz rfl
theorem yd6 (w:Wld) (l:List Ord) (hl:zd4 w) (hll:l.length≤9223372036854775807) (h:zci l w≠0):Spec Tryz.prog 87 [zcf w,.c (.sl 6 (l.map zga))] [] (.tup [zcf default,z93 [] [] [],I .i64 (zci l w)]) []:=by
 refine spB Tryz.func87 62 [.cell 4 32,.cell 5 95,.tmp 6] Tryz.results87 ?_
 try refine xst ?_
 refine caP (z30 l w hll hl h) ?_
 try refine xst ?_
 refine cI (fun h1=>?_) fun h1=>?_
 ·exact absurd h1.1 h
 ·try refine xst ?_
  refine cI (fun h2=>?_) fun h2=>?_
  ·try refine xst ?_
   exact xrz rfl
  ·exact absurd h2 h
theorem yd5 (w:Wld) (l:List Ord) (hl:zd4 w) (hll:l.length≤9223372036854775807) (hs:zci l w=0) (hn:1000000≤w.now):Spec Tryz.prog 87 [zcf w,.c (.sl 6 (l.map zga))] [] (.tup [zcf default,z93 [] [] [],I .i64 6]) []:=by
 obtain⟨ho,hw⟩:=zgf hs
 refine spB Tryz.func87 62 [.cell 4 32,.cell 5 95,.tmp 6] Tryz.results87 ?_
 try refine xst ?_
 refine caP (z3z l w hll hl ho hw) ?_
 try refine xst ?_
 refine cI (fun h1=>?_) fun h1=>?_
 ·try refine xst ?_
  refine cI (fun h2=>?_) fun h2=>?_
  ·try refine xst ?_
   exact xrz rfl
  ·simp at h2
 ·omega
theorem ym2 (wl:List Cel) (h1:1<wl.length) (o:Trp):Spec Tryz.prog 96 [z3p o,.fel 1 [[.sl 2 (wl.map zbk)]] 0 0] [] (B (decide (o.c=wl.getD 1 default))) []:=by
 have e:=zc5 o.c (wl.getD 1 default)
 refine spB Tryz.func96 10 [.tmp 3] Tryz.results96 ?_
 try refine xz2 (gd h1) zag ?_
 (try(refine⟨by kernel_rfl,?_⟩))
 try refine xz2 (gd h1) zag ?_
 exact zcw e rfl
theorem z6d (w:Wld) (l:List Gop) (WR:Cel→List Int) (hWR:∀a,zbu w.f [a] (WR a)) (hl:w.f.p.length≤9223372036854775807) (hll:l.length≤1000) (hnt:w.troops.length≤100):Spec Tryz.prog 70 [zcf w,.c (.sl 3 (l.map zio))] [] (.tup [zcf (z2v w (zff w.f WR l w.troops).1),.c (.sl 1 ((zff w.f WR l w.troops).2.map zao))]) []:=by
 refine spB Tryz.func70 75 [.cell 4 32,.tmp 5] Tryz.results70 ?_
 try refine xst ?_
 refine caM [] (zcl w.troops (by omega)) ?_
 try refine xst ?_
 refine zay (fun k:Nat=>⟨[(21,I .i64 k),(20,I .i64 w.troops.length),(19,.own 1),(6,.own 2),(4,.ptr 3 0 0),(2,.ptr 0 0 0),(1,.c (.sl 3 (l.map zio)))],[(0,.blk 32 (yk9 w (.own 1))),(1,.row 89 7 ((zdr w.f WR l w.troops k).1.map zch)),(2,.row 3 1 ((zdr w.f WR l w.troops k).2.map zao)),(3,.blk 32 [I .i64 0,I .i64 0,.c (.v (.slice none 0 0)),.c (.v (.slice none 0 0)),.c (.v (.slice none 0 0)),.c (.v (.slice none 0 0)),.c (.v (.slice none 0 0)),I .i64 0,I .i64 0])],4⟩) (fun k:Nat=>k≤w.troops.length) (fun k:Nat=>w.troops.length-k) (0) (Nat.zero_le _) ((To.nil 6 3 1 rfl).trans (To.mk [0,2,3,1] rfl rfl (by decide) ?_ ?_)) ?_
 ·exact xS2 zg2 Qb
 ·exact xS
 rintro k hk
 have hln:=ze7 w.f WR l w.troops k
 have hsk:=zfh w.f WR l w.troops k
 obtain⟨S,hS⟩:∃S,S=zdr w.f WR l w.troops k:=⟨_,rfl⟩
 rw[←hS]at hln hsk
 try refine xz2 hS.symm hln.1 ?_
 refine cI (fun h1=>?_) fun h1=>?_
 ·have hlt:k<S.1.length:=by omega
  try refine xz4 hS.symm hln.1 (gd hlt) zac ?_
  refine zay (fun j:Nat=>⟨[(28,I .i64 j),(27,I .i64 l.length),(26,.c (.sl 3 (l.map zio))),(21,I .i64 k),(20,I .i64 w.troops.length),(19,.own 1),(8,.ptr 4 0 0),(7,I .i64 k),(6,.own 2),(4,.ptr 3 0 0),(2,.ptr 0 0 0),(1,.c (.sl 3 (l.map zio)))],[(0,.blk 32 (yk9 w (.own 1))),(1,.row 89 7 (S.1.map zch)),(2,.row 3 1 (S.2.map zao)),(3,.blk 32 [I .i64 0,I .i64 0,.c (.v (.slice none 0 0)),.c (.v (.slice none 0 0)),.c (.v (.slice none 0 0)),.c (.v (.slice none 0 0)),.c (.v (.slice none 0 0)),I .i64 0,I .i64 0]),(4,.blk 89 (ykr (S.1.getD k default)))],5⟩) (fun j:Nat=>j≤l.length∧∀i,i<j→¬(l.getD i default).id=(S.1.getD k default).id) (fun j:Nat=>l.length-j) (0) (⟨Nat.zero_le _,fun i h=>absurd h (Nat.not_lt_zero _)⟩) (To.mk [0,1,2,3,4] rfl rfl (by decide) ?_ ?_) ?_
  ·exact xS1 hS.symm
  ·exact xS
  rintro j ⟨hj,hno⟩
  try refine xz4 hS.symm hln.1 (gd hlt) zac ?_
  refine cI (fun h2=>?_) fun h2=>?_
  ·have hjl:j<l.length:=by omega
   try refine xz6 hS.symm hln.1 (gd hlt) zac (gd hjl) zb0 ?_
   refine cI (fun h3=>?_) fun h3=>?_
   ·have hno2:∀i,i<j+1→¬(l.getD i default).id=(S.1.getD k default).id:=fun i hi=>by
     rcases Nat.lt_or_ge i j with h|h
     ·exact hno i h
     ·rw[show i=j by omega];exact h3
    try refine xz6 hS.symm hln.1 (gd hlt) zac (gd hjl) zb0 ?_
    refine⟨j+1,⟨by omega,hno2⟩,by omega,To.mk [0,1,2,3,4] rfl rfl (by decide) ?_ ?_⟩
    ·(try(refine xz6 hS.symm hln.1 (gd hlt) zac (gd hjl) zb0 ?_;try exact xtI))
    ·(try(refine xz6 hS.symm hln.1 (gd hlt) zac (gd hjl) zb0 ?_;try exact xtI))
   ·have hg:zmk l (S.1.getD k default).id=some (l.getD j default):=zkv _ l j hjl (by simpa using h3) (fun i hi=>by simpa using hno i hi)
    obtain⟨wl,hwl⟩:∃wl,wl=z07 w.f WR (S.1.getD k default).c (l.getD j default).tw:=⟨_,rfl⟩
    have hwy:(if zek (WR (S.1.getD k default).c) w.f (S.1.getD k default).c (l.getD j default).tw=0 then zmd (WR (S.1.getD k default).c) w.f (S.1.getD k default).c (l.getD j default).tw else [])=wl:=hwl.symm
    have hst:=zp4 (f:=w.f) (WR:=WR) (ts:=S.1) hg
    rw[←hwl]at hst
    try refine xz6 hS.symm hln.1 (gd hlt) zac (gd hjl) zb0 ?_
    refine caP (z3a w.f (S.1.getD k default).c (l.getD j default).tw hl (WR (S.1.getD k default).c) (hWR _)) ?_
    rw[hwy]
    try refine xz6 hS.symm hln.1 (gd hlt) zac (gd hjl) zb0 ?_
    refine zhj (fun hcc=>zwl 96 [] [.fel 1 [[.sl 2 (wl.map zbk)]] 0 0] S.1 (fun o=>decide (o.c=wl.getD 1 default)) (by omega) (fun o _=>ym2 wl (by simp only[decide_eq_true_eq]at hcc;omega) o) (fun _=>rfl) (fun _=>rfl)) (WkL.refl _) rfl xG ?_
    try refine xz6 hS.symm hln.1 (gd hlt) zac (gd hjl) zb0 ?_
    refine cI (fun h4=>?_) fun h4=>?_
    ·have hB1:1<wl.length:=by omega
     have hms:zd7 w.f WR l S k=(S.1.set k (zt2 (S.1.getD k default) (wl.getD 1 default)),S.2 ++ [(S.1.getD k default).id]):=zou (by
      rw[hst,if_neg]
      rintro (h|h)
      ·omega
      ·rw[h]at h4;simp at h4)
     try refine xz8 hS.symm hln.1 (gd hlt) zac (gd hjl) zb0 (gd hB1) zag ?_
     (try(refine⟨by kernel_rfl,?_⟩))
     try refine xz8 hS.symm hln.1 (gd hlt) zac (gd hjl) zb0 (gd hB1) zag ?_
     refine⟨k+1,by omega,by omega,To.mk [0,1,44,3] rfl rfl (by decide) ?_ ?_⟩
     ·(try(refine xz6 hsk hms zac ycs zab QB5 ?_;try exact xtI))
     ·(try(refine xz8 hS.symm hln.1 (gd hlt) zac (gd hjl) zb0 (gd hB1) zag ?_;try exact xtI))
    ·have hms:zd7 w.f WR l S k=S:=zfg (by
      rw[hst,if_pos]
      rcases h4 with h|h
      ·exact .inl (by omega)
      ·exact .inr h)
     try refine xz6 hS.symm hln.1 (gd hlt) zac (gd hjl) zb0 ?_
     refine⟨k+1,by omega,by omega,To.mk [0,1,2,3] rfl rfl (by decide) ?_ ?_⟩
     ·(try(refine xz2 hsk hms ?_;try exact xtI))
     ·(try(refine xz6 hS.symm hln.1 (gd hlt) zac (gd hjl) zb0 ?_;try exact xtI))
  ·have hnone:zmk l (S.1.getD k default).id=none:=by
    unfold zmk
    rw[List.find?_eq_none]
    intro g hg
    obtain⟨i,hi,rfl⟩:=mem_getD.1 hg
    simpa using hno i (by omega)
   have hms:zd7 w.f WR l S k=S:=zfg (by unfold zro;rw[hnone])
   try refine xz4 hS.symm hln.1 (gd hlt) zac ?_
   refine⟨k+1,by omega,by omega,To.mk [0,1,2,3] rfl rfl (by decide) ?_ ?_⟩
   ·(try(refine xz2 hsk hms ?_;try exact xtI))
   ·(try(refine xz4 hS.symm hln.1 (gd hlt) zac ?_;try exact xtI))
 ·obtain rfl:k=w.troops.length:=by omega
  have hmv:zff w.f WR l w.troops=S:=hS.symm
  rw[hmv]
  try refine xz2 hS.symm hln.1 ?_
  refine zfm rfl (by repeat' (first|exact trivial|exact rfl|refine⟨?_,?_⟩)) (Wk.of ?_)
  first|rfl|kernel_rfl
theorem yc7 (a b:Cel) (ha : -1000000≤a.x∧a.x≤1000000 ∧ -1000000≤a.y∧a.y≤1000000):Spec Tryz.prog 141 [zeu a,zeu b] [] (B (ydp a b)) []:=by
 refine spB Tryz.func141 25 [.tmp 4] Tryz.results141 ?_
 try refine xst ?_
 refine caP (zat b.x (a.x-1) (a.x+1)) ?_
 try refine xst ?_
 refine gcP (fun hcc=>zat b.y (a.y-1) (a.y+1)) ?_
 try refine xst ?_
 exact zcw yka rfl
abbrev zs4 (d:Ded):List PV := [pI d.kind,pI d.who,pI d.c.x,pI d.c.y,pI d.what]
theorem zod (t:Trp) (d:Ded):Spec Tryz.prog 140 ([] ++ [z3p t] ++ [.fel 5 [zs4 d] 0 0]) [] (B (zi4 d.who t)) []:=by
 refine spB Tryz.func140 9 [.tmp 3] Tryz.results140 ?_
 try refine xst ?_
 exact zcw yda rfl
theorem yio (t:Trp) (c:Cel):Spec Tryz.prog 142 ([] ++ [z3p t] ++ [.fel 2 [[pI c.x,pI c.y]] 0 0]) [] (B (decide (t.c=c))) []:=by
 refine spB Tryz.func142 8 [.tmp 3] Tryz.results142 ?_
 try refine xz1 zc5 ?_
 exact xrz rfl
theorem ypm (w:Wld) (d:Ded) (hw:Right w) (h:d.kind≠1∧d.kind≠2∧d.kind≠3):Spec Tryz.prog 97 [zcf w,zl0 d] [] (.tup [zcf w,B false]) []:=by
 have p1:=hw.places
 have p2:=hw.nb
 have p3:=hw.sl
 have p4:=hw.ml
 have p5:=hw.nt
 refine spB Tryz.func97 292 [.cell 4 32,.tmp 5] Tryz.results97 ?_
 try refine xst ?_
 refine caM [] (zbm w.stocks (by omega)) ?_
 try refine xst ?_
 refine caM [] (zbm w.mines (by omega)) ?_
 try refine xst ?_
 refine caM [] (zcl w.troops (by omega)) ?_
 try refine xst ?_
 (try(refine⟨by kernel_rfl,?_⟩))
 try refine xst ?_
 refine zc0 (zja _ [] [.fel 5 [zs4 d] 0 0] w.troops (zi4 d.who) (by omega) (fun t _=>zod t d) (fun _=>rfl) (fun _=>rfl)) (WkL.refl _) rfl ?_
 try refine xst ?_
 refine cI (fun h1=>?_) fun h1=>?_
 ·exfalso;omega
 ·try refine xst ?_
  refine cI (fun h2=>?_) fun h2=>?_
  ·exfalso;omega
  ·try refine xst ?_
   refine cI (fun h3=>?_) fun h3=>?_
   ·exfalso;omega
   ·try refine xst ?_
    exact xrz rfl
theorem yev (w:Wld) (d:Ded) (hw:Right w) (h:d.kind=1∨d.kind=2) (hf:w.troops.findIdx? (zi4 d.who)=none) (hpos:0<w.troops.length):Spec Tryz.prog 97 [zcf w,zl0 d] [] (.tup [zcf w,B false]) []:=by
 have p1:=hw.places
 have p2:=hw.nb
 have p3:=hw.sl
 have p4:=hw.ml
 have p5:=hw.nt
 have hz:zg6 (zi4 d.who) w.troops = -1:=by unfold zg6;rw[hf]
 have hz2:(zg6 (zi4 d.who) w.troops).toNat=0:=by rw[hz];rfl
 obtain⟨o,eo,ho,hs⟩:=zqi hw hpos
 refine spB Tryz.func97 292 [.cell 4 32,.tmp 5] Tryz.results97 ?_
 try refine xz6 hz2 (gd hpos) zac eo (gd ho) zag ?_
 refine caM [] (zbm w.stocks (by omega)) ?_
 try refine xz6 hz2 (gd hpos) zac eo (gd ho) zag ?_
 refine caM [] (zbm w.mines (by omega)) ?_
 try refine xz6 hz2 (gd hpos) zac eo (gd ho) zag ?_
 refine caM [] (zcl w.troops (by omega)) ?_
 try refine xz6 hz2 (gd hpos) zac eo (gd ho) zag ?_
 (try(refine⟨by kernel_rfl,?_⟩))
 try refine xz6 hz2 (gd hpos) zac eo (gd ho) zag ?_
 refine zc0 (zja _ [] [.fel 5 [zs4 d] 0 0] w.troops (zi4 d.who) (by omega) (fun t _=>zod t d) (fun _=>rfl) (fun _=>rfl)) (WkL.refl _) rfl ?_
 try refine xz6 hz2 (gd hpos) zac eo (gd ho) zag ?_
 refine cI (fun h1=>?_) fun h1=>?_
 ·try refine xz6 hz2 (gd hpos) zac eo (gd ho) zag ?_
  repeat(with_reducible refine And.intro ?_ ?_;· (simp[hz];done))
  refine gcP (fun hcc=>z17 w.f d.c hw.f) ?_
  try refine xz6 hz2 (gd hpos) zac eo (gd ho) zag ?_
  refine zh5 ?_ ?_
  ·simp[hz]
  try refine xz6 hz2 (gd hpos) zac eo (gd ho) zag ?_
  (try(refine⟨by kernel_rfl,?_⟩))
  try refine xz6 hz2 (gd hpos) zac eo (gd ho) zag ?_
  refine cI (fun h2=>?_) fun h2=>?_
  ·try refine xz6 hz2 (gd hpos) zac eo (gd ho) zag ?_
   exact xrz rfl
  ·exact absurd h2 (by decide)
 ·try refine xz6 hz2 (gd hpos) zac eo (gd ho) zag ?_
  refine cI (fun h3=>?_) fun h3=>?_
  ·try refine xz6 hz2 (gd hpos) zac eo (gd ho) zag ?_
   repeat(with_reducible refine And.intro ?_ ?_;· (simp[hz];done))
   refine zh5 ?_ ?_
   ·simp[hz]
   try refine xz6 hz2 (gd hpos) zac eo (gd ho) zag ?_
   (try(refine⟨by kernel_rfl,?_⟩))
   try refine xz6 hz2 (gd hpos) zac eo (gd ho) zag ?_
   refine cI (fun h4=>?_) fun h4=>?_
   ·try refine xz6 hz2 (gd hpos) zac eo (gd ho) zag ?_
    exact xrz rfl
   ·exact absurd h4 (by decide)
  ·exfalso;omega
theorem z97 (w:Wld) (d:Ded) (hw:Right w) (h:d.kind=1∨d.kind=2) (ht:w.troops = []):Spec Tryz.prog 97 [zcf w,zl0 d] [] (.tup [zcf w,B false]) []:=by
 have p1:=hw.places
 have p2:=hw.nb
 have p3:=hw.sl
 have p4:=hw.ml
 have p5:=hw.nt
 have hz:zg6 (zi4 d.who) ([]:List Trp) = -1:=rfl
 have hcl:Spec Tryz.prog 34 [.c (.sl 7 [])] [] (.own 0) [.row 89 7 []]:=zcl [] (by simp)
 have hix:Spec Tryz.prog 139 [.c (.sl 7 []),.clo (.func 140) [] [.fel 5 [zs4 d] 0 0]] [] (I .i64 (zg6 (zi4 d.who) [])) []:=zja _ [] [.fel 5 [zs4 d] 0 0] [] (zi4 d.who) (by simp) (fun t _=>zod t d) (fun _=>rfl) (fun _=>rfl)
 obtain⟨wf,wb,ws,wm,wt,wn,wo⟩:=w
 simp only at ht p1 p2 p3 p4 p5
 subst ht
 refine spB Tryz.func97 292 [.cell 4 32,.tmp 5] Tryz.results97 ?_
 try refine xz1 Qg ?_
 refine caM [] (zbm ws (by omega)) ?_
 try refine xz1 Qg ?_
 refine caM [] (zbm wm (by omega)) ?_
 try refine xz1 Qg ?_
 refine caM [] (hcl) ?_
 try refine xz1 Qg ?_
 (try(refine⟨by kernel_rfl,?_⟩))
 try refine xz1 Qg ?_
 refine zc0 (hix) (WkL.refl _) rfl ?_
 try refine xz1 Qg ?_
 refine cI (fun h1=>?_) fun h1=>?_
 ·try refine xz1 Qg ?_
  repeat(with_reducible refine And.intro ?_ ?_;· (simp[hz];done))
  refine zh5 ?_ ?_
  ·simp[hz]
  try refine xz1 Qg ?_
  repeat(with_reducible refine And.intro ?_ ?_;· (simp[hz];done))
  refine zh5 ?_ ?_
  ·simp[hz]
  try refine xz1 Qg ?_
  (try(refine⟨by kernel_rfl,?_⟩))
  try refine xz1 Qg ?_
  refine cI (fun h2=>?_) fun h2=>?_
  ·try refine xz1 Qg ?_
   exact xrz rfl
  ·simp[hz]at h2
 ·try refine xz1 Qg ?_
  refine cI (fun h3=>?_) fun h3=>?_
  ·try refine xz1 Qg ?_
   repeat(with_reducible refine And.intro ?_ ?_;· (simp[hz];done))
   refine zh5 ?_ ?_
   ·simp[hz]
   try refine xz1 Qg ?_
   (try(refine⟨by kernel_rfl,?_⟩))
   try refine xz1 Qg ?_
   refine cI (fun h4=>?_) fun h4=>?_
   ·try refine xz1 Qg ?_
    exact xrz rfl
   ·simp[hz]at h4
  ·exfalso;omega
theorem z43 (w:Wld) (d:Ded) (j:Nat) (hw:Right w) (h:d.kind=1) (hf:w.troops.findIdx? (zi4 d.who)=some j) (b:Bool) (W:Wld) (hW:(zdg w d j=true→W=zkk w j (zaw w.f d.c)∧b=true)∧(zdg w d j=false→W=w∧b=false)):Spec Tryz.prog 97 [zcf w,zl0 d] [] (.tup [zcf W,B b]) []:=by
 have p1:=hw.places
 have p2:=hw.nb
 have p3:=hw.sl
 have p4:=hw.ml
 have p5:=hw.nt
 have hz:zg6 (zi4 d.who) w.troops=(j:Int):=by unfold zg6;rw[hf]
 have hj:=zha hf
 have ok:=hw.trp j hj
 have hx:=ok.x;have hy:=ok.y
 have hfl:=za4 hw.f
 have hld:=ok.load
 refine spB Tryz.func97 292 [.cell 4 32,.tmp 5] Tryz.results97 ?_
 try refine xz3 hz (gd hj) zac ?_
 refine caM [] (zbm w.stocks (by omega)) ?_
 try refine xz3 hz (gd hj) zac ?_
 refine caM [] (zbm w.mines (by omega)) ?_
 try refine xz3 hz (gd hj) zac ?_
 refine caM [] (zcl w.troops (by omega)) ?_
 try refine xz3 hz (gd hj) zac ?_
 (try(refine⟨by kernel_rfl,?_⟩))
 try refine xz3 hz (gd hj) zac ?_
 refine zc0 (zja _ [] [.fel 5 [zs4 d] 0 0] w.troops (zi4 d.who) (by omega) (fun t _=>zod t d) (fun _=>rfl) (fun _=>rfl)) (WkL.refl _) rfl ?_
 try refine xz3 hz (gd hj) zac ?_
 refine cI (fun h1=>?_) fun h1=>?_
 ·try refine xz3 hz (gd hj) zac ?_
  refine gcP (fun hcc=>z17 w.f d.c hw.f) ?_
  try refine xz3 hz (gd hj) zac ?_
  refine gcP (fun hcc=>yc7 (w.troops.getD j default).c d.c (by omega)) ?_
  try refine xz3 hz (gd hj) zac ?_
  (try(refine⟨by kernel_rfl,?_⟩))
  try refine xz3 hz (gd hj) zac ?_
  refine cI (fun h2=>?_) fun h2=>?_
  ·have e:zdg w d j=false:=by
    unfold zdg
    simp only[Bool.and_eq_false_iff,decide_eq_false_iff_not]
    rcases h2 with ((h2|h2)|h2)|h2
    ·exact .inl (.inl (.inl (.inl (by omega))))
    ·exact .inl (.inl (.inl (.inr (by omega))))
    ·exact .inl (.inr h2)
    ·exact .inl (.inl (.inr h2))
   obtain⟨rfl,rfl⟩:=hW.2 e
   try refine xz3 hz (gd hj) zac ?_
   exact xrz rfl
  ·have hin:inF w.f d.c=true:=h2.1.2
   obtain⟨m1,m2,m3,m4⟩:=z6u hw hin
   obtain⟨m,hm⟩:∃m,m=zaw w.f d.c:=⟨_,rfl⟩
   rw[←hm]at m1 m2
   have ew1:IntKind.i64.wrap (IntKind.i64.wrap (d.c.y*w.f.w)+d.c.x)=(m:Int):=by rw[zaj (d.c.y*w.f.w) (by omega) (by omega),zaj _ (by omega) (by omega)];exact m2
   have hmb:=(hw.mine m m1).1
   try refine xz6 hz (gd hj) zac ew1 (gd m1) zab ?_
   refine cI (fun h3=>?_) fun h3=>?_
   ·have e:zdg w d j=false:=by
     unfold zdg
     simp only[Bool.and_eq_false_iff,decide_eq_false_iff_not]
     exact .inr (by rw[←hm];omega)
    obtain⟨rfl,rfl⟩:=hW.2 e
    try refine xz6 hz (gd hj) zac ew1 (gd m1) zab ?_
    exact xrz rfl
   ·have e:zdg w d j=true:=by
     unfold zdg
     simp only[bJ,decide_eq_true_eq]
     exact⟨⟨⟨⟨by omega,by omega⟩,h2.2⟩,hin⟩,by rw[←hm];omega⟩
    obtain⟨rfl,rfl⟩:=hW.1 e
    rw[←hm]
    try refine xz6 hz (gd hj) zac ew1 (gd m1) zab ?_
    simp(etaStruct := .none)only[push_cast,zad,seval,zkk,zcf,zbw,List.map_set,zao,zch]
    exact zfm rfl (by repeat' (first|exact trivial|exact rfl|refine⟨?_,?_⟩)) (Wk.refl _)
 ·exact absurd h h1
theorem z45 (w:Wld) (d:Ded) (j:Nat) (hw:Right w) (h:d.kind=2) (hf:w.troops.findIdx? (zi4 d.who)=some j) (b:Bool) (W:Wld) (hW:(zjf w j=true→W=zkz w j∧b=decide (0<zey w j))∧(zjf w j=false→W=w∧b=false)):Spec Tryz.prog 97 [zcf w,zl0 d] [] (.tup [zcf W,B b]) []:=by
 have p1:=hw.places
 have p2:=hw.nb
 have p3:=hw.sl
 have p4:=hw.ml
 have p5:=hw.nt
 have hz:zg6 (zi4 d.who) w.troops=(j:Int):=by unfold zg6;rw[hf]
 have hj:=zha hf
 have ok:=hw.trp j hj
 obtain⟨o,eo,ho,hs⟩:=zqi hw hj
 have hn:=zs3 hw hj
 have hb:=hw.base o ho
 have hbx:=inF_iff.1 (ground_iff.1 hb.1).1
 have hfl:=za4 hw.f
 have hld:=ok.load
 have eo2:(w.troops.getD j default).owner.toNat=o:=by omega
 have edN:zey w j=min (w.troops.getD j default).load (1000000-w.stocks.getD o default):=by unfold zey;rw[eo2]
 rw[eo2]at hn
 obtain⟨t,ht⟩:∃t,t=w.troops.getD j default:=⟨_,rfl⟩
 rw[←ht]at ok eo hn hld eo2 edN
 obtain⟨s,hsv⟩:∃s,s=w.stocks.getD o default:=⟨_,rfl⟩
 have setg:∀x:List PV,((w.troops.map zch).set j x).getD j []=x:=fun x=>by rw[zsv _ _ _ (by simpa using hj)];simp
 have setg2:∀x:List PV,((w.stocks.map zao).set o x).getD o []=x:=fun x=>by rw[zsv _ _ _ (by simpa using hs)];simp
 have sets:∀x y:List PV,((w.troops.map zch).set j x).set j y=(w.troops.map zch).set j y:=fun x y=>List.set_set _
 have sets2:∀x y:List PV,((w.stocks.map zao).set o x).set o y=(w.stocks.map zao).set o y:=fun x y=>List.set_set _
 have hset:w.troops.set j (zbw t t.load)=w.troops:=by
  have:zbw t t.load=w.troops.getD j default:=by rw[←ht];rfl
  rw[this,zmn _ _ hj]
 have hset2:w.stocks.set o s=w.stocks:=by rw[hsv,zmn _ _ hs]
 refine spB Tryz.func97 292 [.cell 4 32,.tmp 5] Tryz.results97 ?_
 try refine ze1 hz eo zbh setg setg2 sets sets2 (gd hj) ht.symm (And.intro zac (And.intro (gd ho) (And.intro zag (And.intro (gd hs) (And.intro hsv.symm (And.intro zab Qr)))))) ?_
 refine caM [] (zbm w.stocks (by omega)) ?_
 try refine ze1 hz eo zbh setg setg2 sets sets2 (gd hj) ht.symm (And.intro zac (And.intro (gd ho) (And.intro zag (And.intro (gd hs) (And.intro hsv.symm (And.intro zab Qr)))))) ?_
 refine caM [] (zbm w.mines (by omega)) ?_
 try refine ze1 hz eo zbh setg setg2 sets sets2 (gd hj) ht.symm (And.intro zac (And.intro (gd ho) (And.intro zag (And.intro (gd hs) (And.intro hsv.symm (And.intro zab Qr)))))) ?_
 refine caM [] (zcl w.troops (by omega)) ?_
 try refine ze1 hz eo zbh setg setg2 sets sets2 (gd hj) ht.symm (And.intro zac (And.intro (gd ho) (And.intro zag (And.intro (gd hs) (And.intro hsv.symm (And.intro zab Qr)))))) ?_
 (try(refine⟨by kernel_rfl,?_⟩))
 try refine ze1 hz eo zbh setg setg2 sets sets2 (gd hj) ht.symm (And.intro zac (And.intro (gd ho) (And.intro zag (And.intro (gd hs) (And.intro hsv.symm (And.intro zab Qr)))))) ?_
 refine zc0 (zja _ [] [.fel 5 [zs4 d] 0 0] w.troops (zi4 d.who) (by omega) (fun t _=>zod t d) (fun _=>rfl) (fun _=>rfl)) (WkL.refl _) rfl ?_
 try refine ze1 hz eo zbh setg setg2 sets sets2 (gd hj) ht.symm (And.intro zac (And.intro (gd ho) (And.intro zag (And.intro (gd hs) (And.intro hsv.symm (And.intro zab Qr)))))) ?_
 refine cI (fun h1=>?_) fun h1=>?_
 ·exfalso;omega
 ·try refine ze1 hz eo zbh setg setg2 sets sets2 (gd hj) ht.symm (And.intro zac (And.intro (gd ho) (And.intro zag (And.intro (gd hs) (And.intro hsv.symm (And.intro zab Qr)))))) ?_
  refine cI (fun h2=>?_) fun h2=>?_
  ·try refine ze1 hz eo zbh setg setg2 sets sets2 (gd hj) ht.symm (And.intro zac (And.intro (gd ho) (And.intro zag (And.intro (gd hs) (And.intro hsv.symm (And.intro zab Qr)))))) ?_
   refine gcP (fun hcc=>yc7 (w.bases.getD o default) t.c (by omega)) ?_
   try refine ze1 hz eo zbh setg setg2 sets sets2 (gd hj) ht.symm (And.intro zac (And.intro (gd ho) (And.intro zag (And.intro (gd hs) (And.intro hsv.symm (And.intro zab Qr)))))) ?_
   (try(refine⟨by kernel_rfl,?_⟩))
   try refine ze1 hz eo zbh setg setg2 sets sets2 (gd hj) ht.symm (And.intro zac (And.intro (gd ho) (And.intro zag (And.intro (gd hs) (And.intro hsv.symm (And.intro zab Qr)))))) ?_
   refine cI (fun h3=>?_) fun h3=>?_
   ·obtain⟨rfl,rfl⟩:=hW.2 (by unfold zjf;rw[←ht,eo2];exact h3.resolve_left (by omega))
    try refine ze1 hz eo zbh setg setg2 sets sets2 (gd hj) ht.symm (And.intro zac (And.intro (gd ho) (And.intro zag (And.intro (gd hs) (And.intro hsv.symm (And.intro zab Qr)))))) ?_
    exact xrz rfl
   ·obtain⟨rfl,rfl⟩:=hW.1 (by unfold zjf;rw[←ht,eo2];exact h3.2)
    try refine ze1 hz eo zbh setg setg2 sets sets2 (gd hj) ht.symm (And.intro zac (And.intro (gd ho) (And.intro zag (And.intro (gd hs) (And.intro hsv.symm (And.intro zab Qr)))))) ?_
    refine zay (fun k:Nat=>⟨[(8,I .i64 k),(6,I .i64 j),(4,.ptr 1 0 0),(2,.ptr 0 0 0)],[(0,.blk 32 (z9n w 2 3 4)),(1,.blk 32 [I .i64 0,I .i64 0,.c (.v (.slice none 0 0)),.c (.v (.slice none 0 0)),.c (.v (.slice none 0 0)),.c (.v (.slice none 0 0)),.c (.v (.slice none 0 0)),I .i64 0,I .i64 0]),(2,.row 3 1 ((w.stocks.set o (s+k)).map zao)),(3,miR w),(4,.row 89 7 ((w.troops.set j (zbw t (t.load-k))).map zch))],5⟩) (fun k:Nat=>(k:Int)≤zey w j) (fun k:Nat=>(zey w j).toNat-k) (0) (by have:=hn.1;simpa using this) (To.mk [0,2,11,23,35] rfl rfl (by decide) ?_ ?_) ?_
    ·simp(etaStruct := .none)only[push_cast,zad,seval,Int.natCast_zero,Int.add_zero,Int.sub_zero,hset,hset2]
    ·exact xS
    rintro k hk
    have kt:t.kind=1∨t.kind=2:=ok.kind
    try refine ze1 hz eo zbh setg setg2 sets sets2 (gd hj) ht.symm (And.intro zac (And.intro (gd ho) (And.intro zag (And.intro (gd hs) (And.intro hsv.symm (And.intro zab Qr)))))) ?_
    (try(refine⟨by kernel_rfl,?_⟩))
    try refine ze1 hz eo zbh setg setg2 sets sets2 (gd hj) ht.symm (And.intro zac (And.intro (gd ho) (And.intro zag (And.intro (gd hs) (And.intro hsv.symm (And.intro zab Qr)))))) ?_
    refine cI (fun h4=>?_) fun h4=>?_
    ·have hk2:(k:Int)+1≤zey w j:=by rw[edN];omega
     try refine ze1 hz eo zbh setg setg2 sets sets2 (gd hj) ht.symm (And.intro zac (And.intro (gd ho) (And.intro zag (And.intro (gd hs) (And.intro hsv.symm (And.intro zab Qr)))))) ?_
     (try(refine⟨by kernel_rfl,?_⟩))
     try refine ze1 hz eo zbh setg setg2 sets sets2 (gd hj) ht.symm (And.intro zac (And.intro (gd ho) (And.intro zag (And.intro (gd hs) (And.intro hsv.symm (And.intro zab Qr)))))) ?_
     refine⟨k+1,by omega,by omega,To.mk [0,1,2,3,4] rfl rfl (by decide) ?_ ?_⟩
     ·(iterate 2((try simp(etaStruct := .none)only[push_cast,zad,seval,List.map_set,zbw,eo,setg,setg2,sets,sets2,zch,zao,Int.sub_sub,Int.add_assoc]);(try(refine xsu ?_;try exact xtI))))
     ·(try(refine ze1 hz eo zbh setg setg2 sets sets2 (gd hj) ht.symm (And.intro zac (And.intro (gd ho) (And.intro zag (And.intro (gd hs) (And.intro hsv.symm (And.intro zab Qr)))))) ?_;try exact xtI))
    ·have hk3:zey w j=(k:Int):=by rw[edN]at hk ⊢;omega
     try refine ze1 hz eo zbh setg setg2 sets sets2 (gd hj) ht.symm (And.intro zac (And.intro (gd ho) (And.intro zag (And.intro (gd hs) (And.intro hsv.symm (And.intro zab Qr)))))) ?_
     simp(etaStruct := .none)only[push_cast,zad,seval,zkz,zcf,←ht,eo2,←hsv,hk3,zbw,List.map_set,zao,zch,eo]
     exact zfm rfl (by repeat' (first|exact trivial|exact rfl|refine⟨?_,?_⟩)) (Wk.refl _)
  ·exact absurd h h2
theorem ycg (b:Cel) {m:Nat} (hm:m<9):(zdk b).getD (m+1) default=⟨b.x+((m % 3:Nat):Int)-1,b.y+((m/3:Nat):Int)-1⟩:=by
 have e:m+1=1+3*(m/3)+m % 3:=by omega
 rw[e,zv4 b (by omega) (by omega)]
 congr 1<;>omega
theorem yew (w:Wld) (d:Ded) (hw:Right w) (h:d.kind=3) (hge:w.stocks.length≤d.who.toNat):Spec Tryz.prog 97 [zcf w,zl0 d] [] (.tup [zcf w,B false]) []:=by
 have p1:=hw.places
 have p2:=hw.nb
 have p3:=hw.sl
 have p4:=hw.ml
 have p5:=hw.nt
 have hg:(w.stocks.map zao).getD d.who.toNat [] = []:=by
  simp only[List.getD_eq_getElem?_getD];rw[List.getElem?_eq_none (by rw[List.length_map];exact hge)];rfl
 have hwf:zal d.who 0 ((w.bases.length:Int)-1)=false:=by rw[within_f];omega
 refine spB Tryz.func97 292 [.cell 4 32,.tmp 5] Tryz.results97 ?_
 try refine xz1 hg ?_
 refine caM [] (zbm w.stocks (by omega)) ?_
 try refine xz1 hg ?_
 refine caM [] (zbm w.mines (by omega)) ?_
 try refine xz1 hg ?_
 refine caM [] (zcl w.troops (by omega)) ?_
 try refine xz1 hg ?_
 (try(refine⟨by kernel_rfl,?_⟩))
 try refine xz1 hg ?_
 refine zc0 (zja _ [] [.fel 5 [zs4 d] 0 0] w.troops (zi4 d.who) (by omega) (fun t _=>zod t d) (fun _=>rfl) (fun _=>rfl)) (WkL.refl _) rfl ?_
 try refine xz1 hg ?_
 refine cI (fun h1=>?_) fun h1=>?_
 ·exfalso;omega
 ·try refine xz1 hg ?_
  refine cI (fun h2=>?_) fun h2=>?_
  ·exfalso;omega
  ·try refine xz1 hg ?_
   refine cI (fun h3=>?_) fun h3=>?_
   ·try refine xz1 hg ?_
    refine caP (zat d.who 0 ((w.bases.length:Int)-1)) ?_
    try refine xz1 hg ?_
    refine gcP (fun hcc=>zat d.what 1 2) ?_
    try refine xz1 hg ?_
    repeat(with_reducible refine And.intro ?_ ?_;· (simp[hwf];done))
    refine zh5 ?_ ?_
    ·simp[hwf]
    try refine xz1 hg ?_
    repeat(with_reducible refine And.intro ?_ ?_;· (simp[hwf];done))
    (try(refine⟨by kernel_rfl,?_⟩))
    try refine xz1 hg ?_
    refine cI (fun h4=>?_) fun h4=>?_
    ·try refine xz1 hg ?_
     exact xrz rfl
    ·simp[hwf]at h4
   ·exact absurd h h3
theorem zw1 (w:Wld) (d:Ded) (hw:Right w) (h:d.kind=3) (hs:d.who.toNat<w.stocks.length) (b:Bool) (W:Wld) (hW1:zgn w d=false→W=w∧b=false) (hW2:zgn w d=true→zpr w (w.bases.getD d.who.toNat default)=none→W=w∧b=false)
 (hW3:∀c,zgn w d=true→zpr w (w.bases.getD d.who.toNat default)=some c→W=zd8 w d c∧b=true):Spec Tryz.prog 97 [zcf w,zl0 d] [] (.tup [zcf W,B b]) []:=by
 have p1:=hw.places
 have p2:=hw.nb
 have p3:=hw.sl
 have p4:=hw.ml
 have p5:=hw.nt
 have hb:d.who.toNat<w.bases.length:=by omega
 have hbb:=ztb hw hb
 have hnx:=hw.nx
 have hst:=(hw.base _ hb).2.1
 obtain⟨a,ha⟩:∃a,a=w.bases.getD d.who.toNat default:=⟨_,rfl⟩
 have hal:(zdk a).length=10:=rfl
 rw[←ha]at hbb hW2 hW3
 refine spB Tryz.func97 292 [.cell 4 32,.tmp 5] Tryz.results97 ?_
 (iterate 2((try simp(etaStruct := .none) (maxSteps:=1000000)only[push_cast,zad,seval,zae _ _ _ hs,zae _ _ _ hb,←ha,zao,zbk]);(try(refine xsu ?_;try exact xtI))))
 refine caM [] (zbm w.stocks (by omega)) ?_
 (iterate 2((try simp(etaStruct := .none) (maxSteps:=1000000)only[push_cast,zad,seval,zae _ _ _ hs,zae _ _ _ hb,←ha,zao,zbk]);(try(refine xsu ?_;try exact xtI))))
 refine caM [] (zbm w.mines (by omega)) ?_
 (iterate 2((try simp(etaStruct := .none) (maxSteps:=1000000)only[push_cast,zad,seval,zae _ _ _ hs,zae _ _ _ hb,←ha,zao,zbk]);(try(refine xsu ?_;try exact xtI))))
 refine caM [] (zcl w.troops (by omega)) ?_
 (iterate 2((try simp(etaStruct := .none) (maxSteps:=1000000)only[push_cast,zad,seval,zae _ _ _ hs,zae _ _ _ hb,←ha,zao,zbk]);(try(refine xsu ?_;try exact xtI))))
 (try(refine⟨by kernel_rfl,?_⟩))
 (iterate 2((try simp(etaStruct := .none) (maxSteps:=1000000)only[push_cast,zad,seval,zae _ _ _ hs,zae _ _ _ hb,←ha,zao,zbk]);(try(refine xsu ?_;try exact xtI))))
 refine zc0 (zja _ [] [.fel 5 [zs4 d] 0 0] w.troops (zi4 d.who) (by omega) (fun t _=>zod t d) (fun _=>rfl) (fun _=>rfl)) (WkL.refl _) rfl ?_
 (iterate 2((try simp(etaStruct := .none) (maxSteps:=1000000)only[push_cast,zad,seval,zae _ _ _ hs,zae _ _ _ hb,←ha,zao,zbk]);(try(refine xsu ?_;try exact xtI))))
 refine cI (fun h1=>?_) fun h1=>?_
 ·exfalso;omega
 ·(iterate 2((try simp(etaStruct := .none) (maxSteps:=1000000)only[push_cast,zad,seval,zae _ _ _ hs,zae _ _ _ hb,←ha,zao,zbk]);(try(refine xsu ?_;try exact xtI))))
  refine cI (fun h2=>?_) fun h2=>?_
  ·exfalso;omega
  ·(iterate 2((try simp(etaStruct := .none) (maxSteps:=1000000)only[push_cast,zad,seval,zae _ _ _ hs,zae _ _ _ hb,←ha,zao,zbk]);(try(refine xsu ?_;try exact xtI))))
   refine zcd (fun h3=>?_) (fun h3=>?_)
   ·(try replace h3:=xhh h3)
    (iterate 2((try simp(etaStruct := .none) (maxSteps:=1000000)only[push_cast,zad,seval,zae _ _ _ hs,zae _ _ _ hb,←ha,zao,zbk]);(try(refine xsu ?_;try exact xtI))))
    refine caP (zat d.who 0 ((w.bases.length:Int)-1)) ?_
    (iterate 2((try simp(etaStruct := .none) (maxSteps:=1000000)only[push_cast,zad,seval,zae _ _ _ hs,zae _ _ _ hb,←ha,zao,zbk]);(try(refine xsu ?_;try exact xtI))))
    refine gcP (fun hcc=>zat d.what 1 2) ?_
    (iterate 2((try simp(etaStruct := .none) (maxSteps:=1000000)only[push_cast,zad,seval,zae _ _ _ hs,zae _ _ _ hb,←ha,zao,zbk]);(try(refine xsu ?_;try exact xtI))))
    refine⟨fun hh=>⟨hh,by have:=(within_iff).1 hh.1;omega⟩,fun hh=>⟨hh,hs⟩,?_⟩
    refine gcP (fun hcc=>zg4 d.what (by simp at hcc;have:=(within_iff).1 hcc.2;omega)) ?_
    (iterate 2((try simp(etaStruct := .none) (maxSteps:=1000000)only[push_cast,zad,seval,zae _ _ _ hs,zae _ _ _ hb,←ha,zao,zbk]);(try(refine xsu ?_;try exact xtI))))
    (try(refine⟨by kernel_rfl,?_⟩))
    (iterate 2((try simp(etaStruct := .none) (maxSteps:=1000000)only[push_cast,zad,seval,zae _ _ _ hs,zae _ _ _ hb,←ha,zao,zbk]);(try(refine xsu ?_;try exact xtI))))
    refine cI (fun h4=>?_) fun h4=>?_
    ·have hno:zgn w d=false:=by
      cases hh:zgn w d with
      | false=>rfl
      | true =>
       exfalso
       have hi:=hireOk_iff.1 hh
       rcases h4 with (((h4|h4)|h4)|h4)|h4
       ·rw[within_f]at h4;omega
       ·rw[within_f]at h4;omega
       ·omega
       ·omega
       ·omega
     obtain⟨rfl,rfl⟩:=hW1 hno
     (iterate 2((try simp(etaStruct := .none) (maxSteps:=1000000)only[push_cast,zad,seval,zae _ _ _ hs,zae _ _ _ hb,←ha,zao,zbk]);(try(refine xsu ?_;try exact xtI))))
     exact xrz rfl
    ·have hyes:zgn w d=true:=by
      rw[hireOk_iff]
      have q1:=(within_iff).1 h4.1.1.1.1
      have q2:=(within_iff).1 h4.1.1.1.2
      exact⟨⟨⟨⟨⟨by omega,by omega⟩,by omega⟩,by omega⟩,by omega⟩,by omega⟩
     have q1:=(within_iff).1 h4.1.1.1.1
     have q2:=(within_iff).1 h4.1.1.1.2
     have hwk:d.what=1∨d.what=2:=by omega
     have hpr:0≤(zbx d.what).price∧(zbx d.what).price≤12:=by rcases hwk with e|e<;>rw[e]<;>decide
     (iterate 2((try simp(etaStruct := .none) (maxSteps:=1000000)only[push_cast,zad,seval,zae _ _ _ hs,zae _ _ _ hb,←ha,zao,zbk]);(try(refine xsu ?_;try exact xtI))))
     refine zay (fun i:Nat=>⟨[(10,I .i64 ((i:Int)-1)),(9,.ptr 3 0 0),(4,.ptr 2 0 0),(3,.ptr 1 0 0),(2,.ptr 0 0 0)],[(0,.blk 32 (z9n w 4 5 6)),(1,.blk 160 [I .i64 d.kind,I .i64 d.who,I .i64 d.c.x,I .i64 d.c.y,I .i64 d.what]),(2,.blk 32 [I .i64 0,I .i64 0,.c (.v (.slice none 0 0)),.c (.v (.slice none 0 0)),.c (.v (.slice none 0 0)),.c (.v (.slice none 0 0)),.c (.v (.slice none 0 0)),I .i64 0,I .i64 0]),(3,.blk 72 [I .i64 a.x,I .i64 a.y]),(4,stR w),(5,miR w),(6,trR w)],7⟩) (fun i:Nat=>i≤10∧∀j,j<i→zlu w ((zdk a).getD j default)=false) (fun i:Nat=>10-i) (0) (⟨Nat.zero_le _,fun j h=>absurd h (Nat.not_lt_zero _)⟩) (To.mk [0,1,2,215,11,23,35] rfl rfl (by decide) ?_ ?_) ?_
     ·exact xS
     ·simp(etaStruct := .none)only[push_cast,zad,seval,Int.zero_sub]
     rintro i ⟨hi,hn⟩
     (iterate 2((try simp(etaStruct := .none) (maxSteps:=1000000)only[push_cast,zad,seval,zae _ _ _ hs,zae _ _ _ hb,←ha,zao,zbk]);(try(refine xsu ?_;try exact xtI))))
     refine zcd (fun h5=>?_) (fun h5=>?_)
     ·(try replace h5:=xhh h5)
      have hi9:i<10:=by omega
      obtain⟨x,hx⟩:∃x,x=(zdk a).getD i default:=⟨_,rfl⟩
      (iterate 2((try simp(etaStruct := .none) (maxSteps:=1000000)only[push_cast,zad,seval,zae _ _ _ hs,zae _ _ _ hb,←ha,zao,zbk]);(try(refine xsu ?_;try exact xtI))))
      refine zf1 (fun _u:Unit=>⟨[(11,.ptr 7 0 0),(10,I .i64 ((i:Int)-1)),(9,.ptr 3 0 0),(4,.ptr 2 0 0),(3,.ptr 1 0 0),(2,.ptr 0 0 0)],[(0,.blk 32 (z9n w 4 5 6)),(1,.blk 160 [I .i64 d.kind,I .i64 d.who,I .i64 d.c.x,I .i64 d.c.y,I .i64 d.what]),(2,.blk 32 [I .i64 0,I .i64 0,.c (.v (.slice none 0 0)),.c (.v (.slice none 0 0)),.c (.v (.slice none 0 0)),.c (.v (.slice none 0 0)),.c (.v (.slice none 0 0)),I .i64 0,I .i64 0]),(3,.blk 72 [I .i64 a.x,I .i64 a.y]),(4,stR w),(5,miR w),(6,trR w),(7,.blk 72 [I .i64 x.x,I .i64 x.y])],8⟩) (fun _u:Unit=>Tr) (fun h6=>?_) (fun h6=>?_) ?_
      ·(try replace h6:=xhh h6)
       obtain⟨m,hm⟩:∃m:Nat,i=m+1:=⟨i-1,by omega⟩
       have hxm:=ycg a (m:=m) (by omega)
       rw[←hm,←hx]at hxm
       have em:((i:Int)-1).tmod 3=((m % 3:Nat):Int):=by rw[hm,show (((m+1:Nat):Int)-1)=(m:Int)from by omega,Int.tmod_eq_emod_of_nonneg (by omega)];rfl
       have ed:IntKind.i64.wrap (((i:Int)-1).tdiv 3)=((m/3:Nat):Int):=by rw[hm,show (((m+1:Nat):Int)-1)=(m:Int)from by omega,Int.tdiv_eq_ediv_of_nonneg (by omega)];exact zaj _ (by omega) (by omega)
       (iterate 2((try simp(etaStruct := .none) (maxSteps:=1000000)only[push_cast,zad,seval,zae _ _ _ hs,zae _ _ _ hb,←ha,zao,zbk,em,ed]);(try(refine xsu ?_;try exact xtI))))
       refine⟨(),trI,To.mk [0,1,2,3,4,5,6,7] rfl rfl (by decide) ?_ ?_⟩
       ·(try(refine xz3 hxm em ed ?_;try exact xtI))
       ·(iterate 2((try simp(etaStruct := .none) (maxSteps:=1000000)only[push_cast,zad,seval,zae _ _ _ hs,zae _ _ _ hb,←ha,zao,zbk,em,ed]);(try(refine xsu ?_;try exact xtI))))
      ·(try replace h6:=xhh h6)
       obtain rfl:i=0:=by omega
       have hxa:x=a:=hx
       (iterate 2((try simp(etaStruct := .none) (maxSteps:=1000000)only[push_cast,zad,seval,zae _ _ _ hs,zae _ _ _ hb,←ha,zao,zbk]);(try(refine xsu ?_;try exact xtI))))
       refine⟨(),trI,To.mk [0,1,2,3,4,5,6,7] rfl rfl (by decide) ?_ ?_⟩
       ·(try(refine xz1 hxa ?_;try exact xtI))
       ·(iterate 2((try simp(etaStruct := .none) (maxSteps:=1000000)only[push_cast,zad,seval,zae _ _ _ hs,zae _ _ _ hb,←ha,zao,zbk]);(try(refine xsu ?_;try exact xtI))))
      ·rintro _ _
       skip
       (iterate 2((try simp(etaStruct := .none) (maxSteps:=1000000)only[push_cast,zad,seval,zae _ _ _ hs,zae _ _ _ hb,←ha,zao,zbk]);(try(refine xsu ?_;try exact xtI))))
       refine caP (zss w.f x hw.f) ?_
       (iterate 2((try simp(etaStruct := .none) (maxSteps:=1000000)only[push_cast,zad,seval,zae _ _ _ hs,zae _ _ _ hb,←ha,zao,zbk]);(try(refine xsu ?_;try exact xtI))))
       refine zhj (fun hcc=>zwl _ [] [.fel 2 [[pI x.x,pI x.y]] 0 0] w.troops (fun t=>decide (t.c=x)) (by omega) (fun t _=>yio t x) (fun _=>rfl) (fun _=>rfl)) (WkL.refl _) rfl xG ?_
       (iterate 2((try simp(etaStruct := .none) (maxSteps:=1000000)only[push_cast,zad,seval,zae _ _ _ hs,zae _ _ _ hb,←ha,zao,zbk]);(try(refine xsu ?_;try exact xtI))))
       refine cI (fun h7=>?_) fun h7=>?_
       ·have hfb:zlu w x=true:=by unfold zlu;rw[h7.1,h7.2];rfl
        obtain⟨rfl,rfl⟩:=hW3 x hyes (by unfold zpr;rw[hx];exact zkv _ _ i (by rw[hal];exact hi9) (by rw[←hx];exact hfb) hn)
        (iterate 2((try simp(etaStruct := .none) (maxSteps:=1000000)only[push_cast,zad,seval,zae _ _ _ hs,zae _ _ _ hb,←ha,zao,zbk]);(try(refine xsu ?_;try exact xtI))))
        refine caP (zg4 d.what hwk) ?_
        (iterate 2((try simp(etaStruct := .none) (maxSteps:=1000000)only[push_cast,zad,seval,zae _ _ _ hs,zae _ _ _ hb,←ha,zao,zbk]);(try(refine xsu ?_;try exact xtI))))
        (try(refine⟨by kernel_rfl,?_⟩))
        (iterate 2((try simp(etaStruct := .none) (maxSteps:=1000000)only[push_cast,zad,seval,zae _ _ _ hs,zae _ _ _ hb,←ha,zao,zbk]);(try(refine xsu ?_;try exact xtI))))
        refine caP (zg4 d.what hwk) ?_
        (iterate 2((try simp(etaStruct := .none) (maxSteps:=1000000)only[push_cast,zad,seval,zae _ _ _ hs,zae _ _ _ hb,←ha,zao,zbk]);(try(refine xsu ?_;try exact xtI))))
        (try(refine⟨by kernel_rfl,?_⟩))
        (iterate 2((try simp(etaStruct := .none) (maxSteps:=1000000)only[push_cast,zad,seval,zae _ _ _ hs,zae _ _ _ hb,←ha,zao,zbk]);(try(refine xsu ?_;try exact xtI))))
        simp(etaStruct := .none)only[push_cast,zad,seval,zd8,zcf,List.map_set,List.map_append,zao,zch]
        exact zfm rfl (by repeat' (first|exact trivial|exact rfl|refine⟨?_,?_⟩)) (Wk.refl _)
       ·have hfb:zlu w x=false:=by
         unfold zlu
         rcases h7 with h7|h7
         ·rw[h7];rfl
         ·rw[h7];simp
        (iterate 2((try simp(etaStruct := .none) (maxSteps:=1000000)only[push_cast,zad,seval,zae _ _ _ hs,zae _ _ _ hb,←ha,zao,zbk]);(try(refine xsu ?_;try exact xtI))))
        refine⟨i+1,⟨by omega,fun j hj=>by
 rcases Nat.lt_or_ge j i with h'|h'
 ·exact hn j h'
 ·rw [show j = i by omega, ← hx]; exact hfb⟩, by omega, To.mk [0, 1, 2, 3, 4, 5, 6] rfl rfl (by decide) ?_ ?_⟩
        ·(iterate 2((try simp(etaStruct := .none) (maxSteps:=1000000)only[push_cast,zad,seval,zae _ _ _ hs,zae _ _ _ hb,←ha,zao,zbk]);(try(refine xsu ?_;try exact xtI))))
        ·(iterate 2((try simp(etaStruct := .none)only[push_cast,zad,seval,Int.add_sub_cancel,Int.sub_add_cancel]);(try(refine xsu ?_;try exact xtI))))
     ·(try replace h5:=xhh h5)
      obtain⟨rfl,rfl⟩:=hW2 hyes (zo6 _ _ (fun j hj=>hn j (by rw[hal]at hj;omega)))
      (iterate 2((try simp(etaStruct := .none) (maxSteps:=1000000)only[push_cast,zad,seval,zae _ _ _ hs,zae _ _ _ hb,←ha,zao,zbk]);(try(refine xsu ?_;try exact xtI))))
      exact xrz rfl
   ·(try replace h3:=xhh h3)
    exact absurd h h3
theorem ybz (w:Wld) (d:Ded) (hw:Right w):Spec Tryz.prog 97 [zcf w,zl0 d] [] (.tup [zcf (zf6 w d).1,B (zf6 w d).2]) []:=by
 have none:d.kind=1∨d.kind=2→w.troops.findIdx? (zi4 d.who)=none→Spec Tryz.prog 97 [zcf w,zl0 d] [] (.tup [zcf w,B false]) []:=fun h hf=>by
  rcases Nat.eq_zero_or_pos w.troops.length with h3|h3
  ·exact z97 w d hw h (List.eq_nil_of_length_eq_zero h3)
  ·exact yev w d hw h hf h3
 unfold zf6
 split
 ·rename_i h
  split
  ·rename_i i hi
   split
   ·rename_i ho;exact z43 w d i hw h hi true _ ⟨fun _=>⟨rfl,rfl⟩,fun h2=>by rw[ho]at h2;simp at h2⟩
   ·rename_i ho;exact z43 w d i hw h hi false _ ⟨fun h2=>absurd h2 ho,fun _=>⟨rfl,rfl⟩⟩
  ·rename_i hi;exact none (.inl h) hi
 ·split
  ·rename_i h
   split
   ·rename_i i hi
    split
    ·rename_i ho;exact z45 w d i hw h hi _ _ ⟨fun _=>⟨rfl,rfl⟩,fun h2=>by rw[ho]at h2;simp at h2⟩
    ·rename_i ho;exact z45 w d i hw h hi false _ ⟨fun h2=>absurd h2 ho,fun _=>⟨rfl,rfl⟩⟩
   ·rename_i hi;exact none (.inr h) hi
  ·split
   ·rename_i h
    split
    ·rename_i ho
     have hoi:=hireOk_iff.1 ho
     have hs:d.who.toNat<w.stocks.length:=by have:=hw.sl;omega
     split
     ·rename_i c hc;exact zw1 w d hw h hs true _ (fun h2=>by rw[ho]at h2;simp at h2) (fun _ h2=>by rw[hc]at h2;simp at h2) (fun c' _ h2=>by rw[hc]at h2;rw[Option.some.inj h2];exact⟨rfl,rfl⟩)
     ·rename_i hc;exact zw1 w d hw h hs false _ (fun h2=>by rw[ho]at h2;simp at h2) (fun _ _=>⟨rfl,rfl⟩) (fun c' _ h2=>by rw[hc]at h2;simp at h2)
    ·rename_i ho
     rcases Nat.lt_or_ge d.who.toNat w.stocks.length with h2|h2
     ·exact zw1 w d hw h h2 false _ (fun _=>⟨rfl,rfl⟩) (fun h3=>absurd h3 ho) (fun c' h3=>absurd h3 ho)
     ·exact yew w d hw h h2
   ·exact ypm w d hw ⟨by assumption,by assumption,by assumption⟩
theorem zxw (w:Wld) (l:List Ded) (hw:Right w) (hll:l.length≤200):Spec Tryz.prog 71 [zcf w,.c (.sl 5 (l.map zpk))] [] (.tup [zcf (zbp w l).1,.c (.sl 1 ((zbp w l).2.map zf9))]) []:=by
 refine spB Tryz.func71 29 [.cell 4 32,.tmp 5] Tryz.results71 ?_
 try refine xst ?_
 refine zay (fun k:Nat=>⟨[(12,I .i64 k),(11,I .i64 l.length),(10,.c (.sl 5 (l.map zpk))),(6,.own 2),(4,.ptr 1 0 0),(2,.ptr 0 0 0)],[(0,.blk 32 (zhe (zbp w (l.take k)).1)),(1,.blk 32 [I .i64 0,I .i64 0,.c (.v (.slice none 0 0)),.c (.v (.slice none 0 0)),.c (.v (.slice none 0 0)),.c (.v (.slice none 0 0)),.c (.v (.slice none 0 0)),I .i64 0,I .i64 0]),(2,.row 4 1 ((zbp w (l.take k)).2.map zf9))],3⟩) (fun k:Nat=>k≤l.length) (fun k:Nat=>l.length-k) (0) (Nat.zero_le _) ((To.nil 6 4 1 rfl).trans (To.mk [0,1,2] rfl rfl (by decide) ?_ ?_)) ?_
 ·simp(etaStruct := .none)only[push_cast,zad,seval,List.take_zero,zbp]
 ·exact xS
 rintro k hk
 try refine xst ?_
 refine cI (fun h1=>?_) fun h1=>?_
 ·have hlt:k<l.length:=by omega
  obtain⟨d,hd⟩:∃d,d=l.getD k default:=⟨_,rfl⟩
  have hst:zbp w (l.take (k+1))=((zf6 (zbp w (l.take k)).1 d).1,(zbp w (l.take k)).2 ++ [(zf6 (zbp w (l.take k)).1 d).2]):=by rw[zak _ _ hlt,←hd,zo9]
  have hR:=zjm (l.take k) hw
  have hbl:=zlz (l.take k) w
  rw[List.length_take]at hbl
  generalize (zbp w (l.take k)).1=W at *
  generalize (zbp w (l.take k)).2=bs at *
  try refine xz4 (gd hlt) hd.symm zjg zbg ?_
  refine caP (ybz W d hR) ?_
  try refine xz4 (gd hlt) hd.symm zjg zbg ?_
  refine⟨k+1,by omega,by omega,To.mk [0,1,5] rfl rfl (by decide) ?_ ?_⟩
  ·(try(refine xz3 hst zbg Qp ?_;try exact xtI))
  ·(try(refine xz4 (gd hlt) hd.symm zjg zbg ?_;try exact xtI))
 ·obtain rfl:k=l.length:=by omega
  try refine xz1 Qx ?_
  exact xrz rfl
theorem z9i {l:List Ord} {w:Wld} (h:zev l=0):zci l w=zap w:=by unfold zci;rw[if_neg (by simp[h])]
theorem z9j {l:List Ord} {w:Wld} (h:zev l≠0):zci l w=zev l:=by unfold zci;rw[if_pos h]
theorem yem (w:Wld) (l:List Ord) (WR:Cel→List Int) (hWR:∀a,zbu w.f [a] (WR a)) (hll:l.length≤9223372036854775807) (h:zck l w=0):Spec Tryz.prog 36 [zcf w,.c (.sl 6 (l.map zga))] [] (.tup [zcf (zj6 WR w l),z93 (zk8 w l) (znm WR w l) (zme WR w l),I .i64 0]) []:=by
 have hs:zci l w=0:=by unfold zck at h;split at h;rename_i h1;exact absurd h h1;rename_i h1;simpa using h1
 have hn:w.now<1000000:=by unfold zck at h;rw[if_neg (by simp[hs])]at h;split at h;exact absurd h (by decide);omega
 obtain⟨ho,hw⟩:=zgf hs
 have R0:=zdz hw
 have RA:=zht R0 l
 have RB:=zn7 R0 hWR l
 have RC:=zn6 R0 hWR l
 obtain⟨o1,o2⟩:=zrz ho
 obtain⟨n1,n2,n3⟩:=zla (w:=w) ho
 have hnow:(tkC WR w l).now=w.now:=zwo WR w l
 have hnw:=R0.nw
 have OR:=zkf l hll
 rw[ho]at OR
 have WRI:=zia w R0.l
 rw[hw]at WRI
 have HK:=z3v w (zb1 l w) R0.l hw (by omega)
 rw[show zhs w (zb1 l w)=tkA w l from rfl,show zvi w (zb1 l w)=zk8 w l from rfl]at HK
 have hfo:=za4 RA.f
 have hb:=z4t RA
 have MK:=z6d (tkA w l) (zcz l w) WR hWR (by omega) (by omega) (by omega)
 rw[show z2v (tkA w l) (zff (tkA w l).f WR (zcz l w) (tkA w l).troops).1=tkB WR w l from rfl,show (zff (tkA w l).f WR (zcz l w) (tkA w l).troops).2=znm WR w l from rfl]at MK
 have DK:=zxw (tkB WR w l) (zb4 l w) RB (by omega)
 rw[show (zbp (tkB WR w l) (zb4 l w)).1=tkC WR w l from rfl,show (zbp (tkB WR w l) (zb4 l w)).2=zme WR w l from rfl]at DK
 have hup:IntKind.i64.wrap ((tkC WR w l).now+1)=w.now+1:=by rw[hnow];exact zaj _ (by omega) (by omega)
 have htv:zj6 WR w l = { tkC WR w l with now:=w.now+1 }:=by unfold zj6 yam;rw[hnow]
 rw[htv]
 refine spB Tryz.func36 66 [.cell 4 32,.cell 5 95,.tmp 6] Tryz.results36 ?_
 try refine xst ?_
 refine caP (OR) ?_
 try refine xst ?_
 refine cI (fun h1=>?_) fun h1=>?_
 ·try refine xst ?_
  refine caP (WRI) ?_
  try refine xst ?_
  refine cI (fun h2=>?_) fun h2=>?_
  ·omega
  ·try refine xst ?_
   refine cI (fun h3=>?_) fun h3=>?_
   ·simp at h3
   ·try refine xz1 hup ?_
    refine caP (yg7 l w R0.l o1) ?_
    try refine xz1 hup ?_
    refine caP (yjn l w R0.l o1) ?_
    try refine xz1 hup ?_
    refine caP (yg1 l w R0.l o1 o2) ?_
    try refine xz1 hup ?_
    (try(refine⟨by kernel_rfl,?_⟩))
    try refine xz1 hup ?_
    refine caP (HK) ?_
    try refine xz1 hup ?_
    refine caP (MK) ?_
    try refine xz1 hup ?_
    refine caP (DK) ?_
    try refine xz1 hup ?_
    (try(refine⟨by kernel_rfl,?_⟩))
    try refine xz1 hup ?_
    exact xrz rfl
 ·simp at h1
theorem yel (w:Wld) (l:List Ord) (hl:zd4 w) (hll:l.length≤9223372036854775807) (h:zev l≠0):Spec Tryz.prog 36 [zcf w,.c (.sl 6 (l.map zga))] [] (.tup [zcf default,z93 [] [] [],I .i64 (zev l)]) []:=by
 refine spB Tryz.func36 66 [.cell 4 32,.cell 5 95,.tmp 6] Tryz.results36 ?_
 try refine xst ?_
 refine caP (zkf l hll) ?_
 try refine xst ?_
 refine cI (fun h1=>?_) fun h1=>?_
 ·exact absurd h1 h
 ·try refine xst ?_
  refine cI (fun h2=>?_) fun h2=>?_
  ·exact absurd h2.1 h
  ·try refine xst ?_
   refine cI (fun h3=>?_) fun h3=>?_
   ·try refine xst ?_
    exact xrz rfl
   ·exact absurd h3 h
theorem yej (w:Wld) (l:List Ord) (hl:zd4 w) (hll:l.length≤9223372036854775807) (ho:zev l=0) (h:zap w≠0):Spec Tryz.prog 36 [zcf w,.c (.sl 6 (l.map zga))] [] (.tup [zcf default,z93 [] [] [],I .i64 (zap w)]) []:=by
 have OR:=zkf l hll
 rw[ho]at OR
 refine spB Tryz.func36 66 [.cell 4 32,.cell 5 95,.tmp 6] Tryz.results36 ?_
 try refine xst ?_
 refine caP (OR) ?_
 try refine xst ?_
 refine cI (fun h1=>?_) fun h1=>?_
 ·try refine xst ?_
  refine caP (zia w hl) ?_
  try refine xst ?_
  refine cI (fun h2=>?_) fun h2=>?_
  ·exact absurd h2.1 h
  ·try refine xst ?_
   refine cI (fun h3=>?_) fun h3=>?_
   ·try refine xst ?_
    exact xrz rfl
   ·exact absurd h3 h
 ·simp at h1
theorem yen (w:Wld) (l:List Ord) (hl:zd4 w) (hll:l.length≤9223372036854775807) (ho:zev l=0) (hw:zap w=0) (hn:1000000≤w.now):Spec Tryz.prog 36 [zcf w,.c (.sl 6 (l.map zga))] [] (.tup [zcf default,z93 [] [] [],I .i64 6]) []:=by
 have OR:=zkf l hll
 rw[ho]at OR
 have WRI:=zia w hl
 rw[hw]at WRI
 have hnw:=(zdz hw).nw
 refine spB Tryz.func36 66 [.cell 4 32,.cell 5 95,.tmp 6] Tryz.results36 ?_
 try refine xst ?_
 refine caP (OR) ?_
 try refine xst ?_
 refine cI (fun h1=>?_) fun h1=>?_
 ·try refine xst ?_
  refine caP (WRI) ?_
  try refine xst ?_
  refine cI (fun h2=>?_) fun h2=>?_
  ·try refine xst ?_
   refine cI (fun h3=>?_) fun h3=>?_
   ·try refine xst ?_
    exact xrz rfl
   ·simp at h3
  ·omega
 ·simp at h1
def z3l (WR:Cel→List Int) (w:Wld) (l:List Ord):Wld:=if zck l w=0 then zj6 WR w l else default
def zhp (w:Wld) (l:List Ord):List Int:=if zck l w=0 then zk8 w l else []
def zho (WR:Cel→List Int) (w:Wld) (l:List Ord):List Int:=if zck l w=0 then znm WR w l else []
def zj7 (WR:Cel→List Int) (w:Wld) (l:List Ord):List Bool:=if zck l w=0 then zme WR w l else []
theorem yd4 (w:Wld) (l:List Ord) (WR:Cel→List Int) (hWR:∀a,zbu w.f [a] (WR a)) (hl:zd4 w) (hll:l.length≤9223372036854775807):Spec Tryz.prog 87 [zcf w,.c (.sl 6 (l.map zga))] [] (.tup [zcf (z3l WR w l),z93 (zhp w l) (zho WR w l) (zj7 WR w l),I .i64 (zck l w)]) []:=by
 unfold z3l zhp zho zj7
 by_cases h:zck l w=0
 ·rw[if_pos h,if_pos h,if_pos h,if_pos h,h];exact z3m w l WR hWR hll h
 ·rw[if_neg h,if_neg h,if_neg h,if_neg h]
  by_cases hs:zci l w=0
  ·have hn:1000000≤w.now:=by
    unfold zck at h;rw[if_neg (by simp[hs])]at h;split at h;assumption;exact absurd rfl h
   rw[show zck l w=6 from by unfold zck;rw[if_neg (by simp[hs]),if_pos hn]];exact yd5 w l hl hll hs hn
  ·rw[show zck l w=zci l w from by unfold zck;rw[if_pos hs]];exact yd6 w l hl hll hs
theorem yek (w:Wld) (l:List Ord) (WR:Cel→List Int) (hWR:∀a,zbu w.f [a] (WR a)) (hl:zd4 w) (hll:l.length≤9223372036854775807):Spec Tryz.prog 36 [zcf w,.c (.sl 6 (l.map zga))] [] (.tup [zcf (z3l WR w l),z93 (zhp w l) (zho WR w l) (zj7 WR w l),I .i64 (zck l w)]) []:=by
 unfold z3l zhp zho zj7
 by_cases h:zck l w=0
 ·rw[if_pos h,if_pos h,if_pos h,if_pos h,h];exact yem w l WR hWR hll h
 ·rw[if_neg h,if_neg h,if_neg h,if_neg h]
  by_cases hs:zci l w=0
  ·have hn:1000000≤w.now:=by
    unfold zck at h;rw[if_neg (by simp[hs])]at h;split at h;assumption;exact absurd rfl h
   obtain⟨ho,hw⟩:=zgf hs
   rw[show zck l w=6 from by unfold zck;rw[if_neg (by simp[hs]),if_pos hn]];exact yen w l hl hll ho hw hn
  ·rw[show zck l w=zci l w from by unfold zck;rw[if_pos hs]]
   by_cases ho:zev l=0
   ·rw[z9i ho]at hs ⊢;exact yej w l hl hll ho hs
   ·rw[z9j ho];exact yel w l hl hll ho
theorem znl (WR:Cel→List Int) (w:Wld) (l:List Ord):(zhp w l).length≤100∧(zho WR w l).length≤100∧(zj7 WR w l).length≤100:=by
 unfold zhp zho zj7
 by_cases h:zck l w=0
 ·rw[if_pos h,if_pos h,if_pos h]
  have hs:zci l w=0:=by unfold zck at h;split at h;rename_i h1;exact absurd h h1;rename_i h1;simpa using h1
  obtain⟨ho,hw⟩:=zgf hs
  have R0:=zdz hw
  have RA:=zht R0 l
  obtain⟨n1,n2,n3⟩:=zla (w:=w) ho
  refine⟨?_,?_,?_⟩
  ·unfold zk8 zvi
   rw[List.length_map]
   refine Nat.le_trans (List.length_filter_le _ _) ?_
   rw[List.length_map];exact R0.nt
  ·exact Nat.le_trans (ze7 w.f WR (zcz l w) (tkA w l).troops _).2 RA.nt
  ·unfold zme;rw[zlz];exact n3
 ·rw[if_neg h,if_neg h,if_neg h];simp
theorem yc3 {t:Trp} {l:List Trp} (h:t∈l):∃i,i<l.length∧l.getD i default=t:=by
 obtain⟨i,hi,e⟩:=List.getElem_of_mem h
 exact⟨i,hi,by rw[zaq _ _ hi];exact e⟩
theorem zu4 (f:Fld) (WR:Cel→List Int) (l:List Gop) (ts:List Trp):∀k,k≤ts.length→((zdr f WR l ts k).1.map fun t=>t.id)=ts.map (fun t=>t.id)∧∀x∈(zdr f WR l ts k).2,x∈ts.map fun t=>t.id
 | 0,_=>⟨rfl,fun x hx=>by simp[zg2]at hx⟩
 | k+1,hk=>by
  obtain⟨h1,h2⟩:=zu4 f WR l ts k (by omega)
  have hl:=(ze7 f WR l ts k).1
  rw[zfh]
  generalize zdr f WR l ts k=s at *
  unfold zd7
  split
  ·exact⟨h1,h2⟩
  ·rename_i c _
   have hlt:k<s.1.length:=by omega
   have hid:(s.1.getD k default).id∈ts.map fun t=>t.id:=by
    rw[←h1];exact List.mem_map.2 ⟨_,zax s.1 k hlt,rfl⟩
   refine⟨?_,fun x hx=>?_⟩
   ·rw[←h1]
    simp only[List.map_set]
    refine List.ext_getElem (by simp) fun i h3 h4=>?_
    rw[List.getElem_set]
    split
    ·rename_i e;subst e;simp[zt2,hlt]
    ·rfl
   ·rcases List.mem_append.1 hx with hx|hx
    ·exact h2 x hx
    ·rw[List.mem_singleton.1 hx];exact hid
theorem z3o {w:Wld} (R:Right w) {t:Trp} (h:t∈w.troops):zdu t.id:=by
 obtain⟨i,hi,rfl⟩:=yc3 h
 have:=(R.trp i hi)
 have nx:=R.nx
 exact⟨by have:=this.id;omega,by have:=this.id;omega⟩
theorem zrh (WR:Cel→List Int) (w:Wld) (l:List Ord):(∀x∈zhp w l,zdu x)∧∀x∈zho WR w l,zdu x:=by
 unfold zhp zho
 by_cases h:zck l w=0
 ·rw[if_pos h,if_pos h]
  have hs:zci l w=0:=by unfold zck at h;split at h;rename_i h1;exact absurd h h1;rename_i h1;simpa using h1
  obtain⟨ho,hw⟩:=zgf hs
  have R0:=zdz hw
  have RA:=zht R0 l
  refine⟨fun x hx=>?_,fun x hx=>?_⟩
  ·unfold zk8 zvi at hx
   obtain⟨t,ht,rfl⟩:=List.mem_map.1 hx
   obtain⟨t0,ht0,rfl⟩:=List.mem_map.1 (List.mem_filter.1 ht).1
   show zdu t0.id
   exact z3o R0 ht0
  ·have:=(zu4 w.f WR (zcz l w) (tkA w l).troops _ (Nat.le_refl _)).2 x hx
   obtain⟨t,ht,rfl⟩:=List.mem_map.1 this
   exact z3o RA ht
 ·rw[if_neg h,if_neg h]
  exact⟨fun x hx=>by simp at hx,fun x hx=>by simp at hx⟩
theorem ycp (l:List Int) (hl:∀n∈l,zdu n) (hn:l.length≤1048576):Spec Tryz.prog 54 [.c (.sl 1 (l.map zao))] [] (.own 0) [.row 9 1 (l.map zcy)]:=by
 refine spB Tryz.func54 19 [.tmp 2] Tryz.results54 ?_
 try refine xst ?_
 refine zay (fun k:Nat=>⟨[(8,I .i64 k),(7,I .i64 l.length),(6,.c (.sl 1 (l.map zao))),(3,.own 0)],[(0,.row 9 1 ((l.take k).map zcy))],1⟩) (fun k:Nat=>k≤l.length) (fun k:Nat=>l.length-k) (0) (Nat.zero_le _) ((To.nil 3 9 1 rfl).trans (To.mk [0] rfl rfl (by decide) ?_ ?_)) ?_
 ·exact xS
 ·exact xS
 rintro k hk
 try refine xst ?_
 refine cI (fun h1=>?_) fun h1=>?_
 ·have hlt:k<l.length:=by omega
  have sn:=zak l k hlt
  have tl:(l.take k).length=k:=by rw[List.length_take];omega
  try refine xz2 (gd hlt) zab ?_
  refine caP (zz6 (l.getD k default) (hl _ (zax l k hlt))) ?_
  try refine xz2 (gd hlt) zab ?_
  refine⟨k+1,by omega,by omega,To.mk [2] rfl rfl (by decide) ?_ ?_⟩
  ·(try(refine xz3 sn zxj QB0 ?_;try exact xtI))
  ·(try(refine xz2 (gd hlt) zab ?_;try exact xtI))
 ·obtain rfl:k=l.length:=by omega
  rw[List.take_length]
  try refine xst ?_
  refine zb9 [0] rfl rfl (by decide) ⟨?_,trivial⟩ trivial ?_
  ·exact xS
  ·exact xS
theorem ybu (w:Wld) (l:List Ord) (WR:Cel→List Int) (hWR:∀a,zbu w.f [a] (WR a)) (hl:zd4 w) (hll:l.length≤100) (h:zck l w≠0):zc6 Tryz.prog 52 [.ptr 0 0 0] [za9 w 1,zbc l] (.pan (za5 (zck l w)) [za9 w 1,zbc l]):=by
 have T:=(yd4 w l WR hWR hl (by omega)).wk0 (r' := .tup [.agg [.c .undef,.c .undef,.c .undef,.c .undef,.c .undef,.c .undef,.c .undef,.c .undef,.c .undef],.agg [.c .undef,.c .undef,.c .undef],I .i64 (zck l w)]) (Wk.tup ⟨Wk.agg ⟨Wk.cu _,Wk.cu _,Wk.cu _,Wk.cu _,Wk.cu _,Wk.cu _,Wk.cu _,Wk.cu _,Wk.cu _,trivial⟩,Wk.agg ⟨Wk.cu _,Wk.cu _,Wk.cu _,trivial⟩,Wk.refl _,trivial⟩)
 generalize zck l w=e at *
 refine zdw (.pan (za5 e) [za9 w 1,zbc l]) [2] Tryz.func52 rfl rfl mix 58 rfl [.tmp 2] Tryz.results52 (Nat.le_of_ble_eq_true rfl) ?_
 try refine xst ?_
 refine zc0 (T) (WkL.refl _) rfl ?_
 try refine xst ?_
 (try(refine⟨by kernel_rfl,?_⟩))
 try refine xst ?_
 refine zfn 1 ?_
 try refine xst ?_
 refine caN [] (zjh e h) ?_
 try refine xst ?_
 refine zfe (zfo [0,1] (ToK.refl _ _) rfl (Nat.le_refl _) (by decide) ⟨?_,?_,trivial⟩)
 ·exact xS
 ·exact xS
abbrev slP:List PV := [.v (.string ⟨#[47]⟩)]
def ynP (b:Bool):List PV := [.v (.string (if b then ⟨#[121]⟩else ⟨#[110]⟩))]
def zk7 (g m:List Int):List (List PV):=g.map zcy ++ [slP]++m.map zcy ++ [slP]
theorem ybt (w:Wld) (l:List Ord) (WR:Cel→List Int) (hWR:∀a,zbu w.f [a] (WR a)) (hll:l.length≤100) (h:zck l w=0):Spec Tryz.prog 52 [.ptr 0 0 0] [za9 w 1,zbc l] (.c (.sl 1 (zk7 (zk8 w l) (znm WR w l)++(zme WR w l).map ynP))) [za9 (zj6 WR w l) 2,.dead,zbc []]:=by
 have T:=z3m w l WR hWR (by omega) h
 obtain⟨n1,n2,n3⟩:=znl WR w l
 obtain⟨i1,i2⟩:=zrh WR w l
 unfold zhp at n1 i1
 unfold zho at n2 i2
 unfold zj7 at n3
 rw[if_pos h]at n1 n2 n3 i1 i2
 generalize zk8 w l=g at *
 generalize znm WR w l=m at *
 generalize zme WR w l=d at *
 generalize zj6 WR w l=W at *
 have lh:(zk7 g m).length≤300:=by unfold zk7;simp only[List.length_append,List.length_map,List.length_cons,List.length_nil];omega
 refine spB Tryz.func52 58 [.tmp 2] Tryz.results52 ?_
 try refine xst ?_
 refine zcn [1] (Spec.hand 0 T (Nat.zero_le _) rfl (by exact WkL.refl _) rfl) (WkL.refl _) rfl (by decide) (by simp[za6,zdf,zjc]) ?_
 try refine xst ?_
 (try(refine⟨by kernel_rfl,?_⟩))
 try refine xst ?_
 refine caP (zk2) ?_
 try refine xst ?_
 refine caM [] (ycp g i1 (by omega)) ?_
 try refine xst ?_
 refine caM [] (ycp m i2 (by omega)) ?_
 try refine xst ?_
 refine zay (fun k:Nat=>⟨[(47,I .i64 k),(46,I .i64 d.length),(45,.c (.sl 1 (d.map zf9))),(6,.own 2),(0,.ptr 0 0 0)],[(0,.blk 35 [I .i64 W.f.w,I .i64 W.f.h,.c (.sl 1 (W.f.p.map zao)),.c (.sl 2 (W.bases.map zbk)),.c (.sl 1 (W.stocks.map zao)),.c (.sl 1 (W.mines.map zao)),.c (.sl 7 (W.troops.map zch)),I .i64 W.next,I .i64 W.now,.c (.v (.slice none 0 0))]),(1,.dead),(2,.row 9 1 (zk7 g m++(d.take k).map ynP))],3⟩) (fun k:Nat=>k≤d.length) (fun k:Nat=>d.length-k) (0) (Nat.zero_le _) (To.mk [0,1,80] rfl rfl (by decide) ?_ ?_) ?_
 ·simp(etaStruct := .none)only[push_cast,zad,seval]
  simp[zk7]
 ·exact xS
 rintro k hk
 try refine xst ?_
 refine cI (fun h1=>?_) fun h1=>?_
 ·have hlt:k<d.length:=by omega
  have sn:=zak d k hlt
  have tl:(d.take k).length=k:=by rw[List.length_take];omega
  try refine xz2 (gd hlt) zbg ?_
  refine cI (fun h2=>?_) fun h2=>?_
  ·have hy:ynP (d.getD k default) = [.v (.string ⟨#[121]⟩)]:=by unfold ynP;rw[h2];rfl
   try refine xz2 (gd hlt) zbg ?_
   refine⟨k+1,by omega,by omega,To.mk [0,1,4] rfl rfl (by decide) ?_ ?_⟩
   ·(try(refine xz3 sn hy QB7 ?_;try exact xtI))
   ·(try(refine xz2 (gd hlt) zbg ?_;try exact xtI))
  ·have hy:ynP (d.getD k default) = [.v (.string ⟨#[110]⟩)]:=by unfold ynP;rw[h2];rfl
   try refine xz2 (gd hlt) zbg ?_
   refine⟨k+1,by omega,by omega,To.mk [0,1,4] rfl rfl (by decide) ?_ ?_⟩
   ·(try(refine xz3 sn hy QB7 ?_;try exact xtI))
   ·(try(refine xz2 (gd hlt) zbg ?_;try exact xtI))
 ·obtain rfl:k=d.length:=by omega
  rw[List.take_length]
  try refine xst ?_
  refine zjn (To.nilC 0 9 74 6 35 _ rfl rfl) (zb9 [0,1,3] rfl rfl (by decide) ⟨?_,trivial,?_,trivial⟩ trivial ?_)
  ·exact xS1 QB1
  ·exact xS
  ·exact xS
def zdb (ns:List Int):List UInt8:=Lib.join (ns.map Lib.itoa) [44]
theorem yfy (xs:List (List UInt8)) (h:∀x∈xs,x.length≤21):(Lib.join xs [44]).length≤22*xs.length:=by
 cases xs with
 | nil=>simp[Lib.join_nil]
 | cons x r =>
  rw[Lib.join_cons]
  have tail:∀r:List (List UInt8),(∀x∈r,x.length≤21)→(Lib.joinTail [44] r).length≤22*r.length:=by
   intro r
   induction r with
   | nil=>intro _;simp[Lib.joinTail]
   | cons y r ih =>
    intro hr
    have h1:=hr y (by simp)
    have h2:=ih fun z hz=>hr z (by simp[hz])
    unfold Lib.joinTail at h2 ⊢
    simp only[List.map_cons,List.flatten_cons,List.length_append,List.length_cons,List.length_nil]at h2 ⊢
    omega
  have h1:=h x (by simp)
  have h2:=tail r fun z hz=>h z (by simp[hz])
  rw[List.length_append,List.length_cons];omega
theorem zg5 (ns:List Int) (h:∀n∈ns,zdu n):(zdb ns).length≤22*ns.length:=by
 have:=yfy (ns.map Lib.itoa) fun x hx=>by
  obtain⟨n,hn,rfl⟩:=List.mem_map.1 hx
  exact Lib.itoa_length_le n (h n hn).1 (h n hn).2
 rwa [List.length_map]at this
theorem z6o (ns:List Int) (h:∀n∈ns,zdu n) (hl:ns.length≤1000):Spec Tryz.prog 18 [.c (.sl 1 (ns.map zcy)),S ⟨#[44]⟩] [] (S (zah (zdb ns))) []:=by
 have e:(ns.map fun n=>zah (Lib.itoa n)).map (·.data.toList)=ns.map Lib.itoa:=by
  rw[List.map_map];exact List.map_congr_left fun n _=>zbo _
 have J:=yc8 (ns.map fun n=>zah (Lib.itoa n)) ⟨#[44]⟩ (by rw[List.length_map];omega) (by
  rw[e]
  have:=zg5 ns h
  show (zdb ns).length≤_
  omega)
 rw[e,List.map_map]at J
 exact J
def zpi (t:Trp):List Int := [t.id,t.owner,t.kind,t.c.x,t.c.y,t.life,t.load]
def zlo (ns:List Int):List PV := [.v (.string (zah (zdb ns)))]
theorem z6n (ns:List Int):zlo ns=([.v (.string (zah (zdb ns)))]:List PV):=rfl
theorem zri {w:Wld} (R:Right w) {k:Nat} (hk:k<w.troops.length):∀n∈zpi (w.troops.getD k default),zdu n:=by
 obtain⟨h1,h2,h3,_,h5,h6,h7,h8⟩:=R.trp k hk
 obtain⟨f1,f2,_,_⟩:=za4 R.f
 have nb:=R.nb
 have nx:=R.nx
 have hl:(zbx (w.troops.getD k default).kind).life≤20:=by
  rcases h1 with e|e<;>rw[e]<;>decide
 intro n hn
 simp only[zpi,List.mem_cons,List.mem_nil_iff,or_false]at hn
 rcases hn with rfl|rfl|rfl|rfl|rfl|rfl|rfl<;>exact⟨by omega,by omega⟩
theorem z7u (w:Wld) (l:List Ord) (R:Right w):Spec Tryz.prog 53 [.ptr 0 0 0] [za9 w 1,zbc l] (.c (.sl 1 (w.troops.map fun t=>zlo (zpi t)))) [za9 w 1,zbc l]:=by
 have nt:=R.nt
 refine spB Tryz.func53 40 [.tmp 2] Tryz.results53 ?_
 try refine xst ?_
 refine zay (fun k:Nat=>⟨[(12,I .i64 k),(11,I .i64 w.troops.length),(10,.c (.sl 7 (w.troops.map zch))),(3,.own 2),(0,.ptr 0 0 0)],[(0,za9 w 1),(1,zbc l),(2,.row 9 1 ((w.troops.take k).map fun t=>zlo (zpi t)))],3⟩) (fun k:Nat=>k≤w.troops.length) (fun k:Nat=>w.troops.length-k) (0) (Nat.zero_le _) ((To.nil 3 9 1 rfl).trans (To.mk [0,1,2] rfl rfl (by decide) ?_ ?_)) ?_
 ·exact xS
 ·exact xS
 rintro k hk
 try refine xst ?_
 refine cI (fun h1=>?_) fun h1=>?_
 ·have hlt:k<w.troops.length:=by omega
  have sn:=zak w.troops k hlt
  have tl:(w.troops.take k).length=k:=by rw[List.length_take];omega
  have ok:=zri R hlt
  try refine xz2 (gd hlt) zac ?_
  refine zcn [4] (Spec.hand 0 (zno (zpi (w.troops.getD k default)) ok (by simp[zpi])) (Nat.zero_le _) rfl (by exact WkL.refl _) rfl) (WkL.refl _) rfl (by decide) (by simp[za6]) ?_
  try refine xz2 (gd hlt) zac ?_
  refine caP (z6o (zpi (w.troops.getD k default)) ok (by simp[zpi])) ?_
  try refine xz2 (gd hlt) zac ?_
  refine⟨k+1,by omega,by omega,To.mk [0,1,6] rfl rfl (by decide) ?_ ?_⟩
  ·(try(refine xz3 sn z6n QB0 ?_;try exact xtI))
  ·(try(refine xz2 (gd hlt) zac ?_;try exact xtI))
 ·obtain rfl:k=w.troops.length:=by omega
  rw[List.take_length]
  try refine xst ?_
  refine zb9 [0,1] rfl rfl (by decide) ⟨?_,?_,trivial⟩ trivial ?_
  ·exact xS
  ·exact xS
  ·exact xS
theorem z3b {f:Fld} {W H:Nat} (hw:f.w=(W:Int)) (hh:f.h=(H:Int)) (hW:0<W) (hf:zbl f=0) (hL:f.p.length=W*H) {a:Cel} {R:List Int} (hR:Flood W f.p [zaw f a] R) (ha:inF f a=true):∀(N:Nat) (c:Cel),inF f c=true→0≤R.getD (zaw f c) default→(zpm R f a N c).length≤N∧∀x∈zpm R f a N c,inF f x=true
 | 0,c,_,_=>⟨Nat.le_refl _,fun x hx=>by simp[zpm]at hx⟩
 | N+1,c,hc,h0=>by
  unfold zpm
  by_cases e:c=a
  ·rw[if_pos e];exact⟨Nat.zero_le _,fun x hx=>by simp at hx⟩
  ·rw[if_neg e]
   obtain⟨_,_,n1,_,n2,_⟩:=zur hw hh hW hf hL hR ha hc e h0
   obtain⟨i1,i2⟩:=z3b hw hh hW hf hL hR ha N (zmx R f c) n1 n2
   refine⟨by rw[List.length_cons];omega,fun x hx=>?_⟩
   rcases List.mem_cons.1 hx with rfl|hx
   ·exact n1
   ·exact i2 x hx
theorem z29 {f:Fld} {a b:Cel} {R:List Int} (hR:zbu f [a] R) (h:zek R f a b=0):(0≤zml R f a b∧zml R f a b≤4800)∧(zmd R f a b).length≤4801∧∀c∈zmd R f a b,inF f c=true:=by
 rcases zp2 R f a b with ⟨hE,_⟩|⟨hf,ha,hb,hpa,hpb,⟨hE,h0⟩|⟨hE,h0⟩⟩
 ·exact absurd h hE
 ·rw[hE]at h;exact absurd h (by decide)
 ·obtain⟨W,H,s⟩:=yeb (b:=b) hf ha hpa hR
  have hend:=(s.end hf ha hb).2 h0
  have hbF:zaw f b<f.p.length:=(zbz s.w s.h s.w0 hf hb).2
  have hpx:=zbb hf ha
  have hle:=(zyy s hpx.2.2.2.2 _ hbF).2
  rw[hend.1]at hle
  have e:zml R f a b=R.getD (zaw f b) default:=if_pos h
  obtain⟨l1,l2⟩:=z3b s.w s.h s.w0 hf s.l s.r ha (R.getD (zaw f b) default).toNat b hb h0
  refine⟨by rw[e];exact⟨h0,hle⟩,?_,fun c hc=>?_⟩
  ·unfold zmd;rw[List.length_reverse,List.length_cons];omega
  ·unfold zmd at hc
   rcases List.mem_cons.1 (List.mem_reverse.1 hc)with rfl|hc
   ·exact hb
   ·exact l2 c hc
theorem yd8 (l:List Int) (hl:∀n∈l,zdu n) (hn:l.length≤1048576):Spec Tryz.prog 54 [.own 0] [.row 3 1 (l.map zao)] (.own 1) [.dead,.row 9 1 (l.map zcy)]:=by
 refine spB Tryz.func54 19 [.tmp 2] Tryz.results54 ?_
 try refine xst ?_
 refine zay (fun k:Nat=>⟨[(8,I .i64 k),(7,I .i64 l.length),(6,.own 0),(3,.own 1)],[(0,.row 3 1 (l.map zao)),(1,.row 9 1 ((l.take k).map zcy))],2⟩) (fun k:Nat=>k≤l.length) (fun k:Nat=>l.length-k) (0) (Nat.zero_le _) ((To.nil 3 9 1 rfl).trans (To.mk [0,1] rfl rfl (by decide) ?_ ?_)) ?_
 ·exact xS
 ·exact xS
 rintro k hk
 try refine xst ?_
 refine cI (fun h1=>?_) fun h1=>?_
 ·have hlt:k<l.length:=by omega
  have sn:=zak l k hlt
  have tl:(l.take k).length=k:=by rw[List.length_take];omega
  try refine xz2 (gd hlt) zab ?_
  refine caP (zz6 (l.getD k default) (hl _ (zax l k hlt))) ?_
  try refine xz2 (gd hlt) zab ?_
  refine⟨k+1,by omega,by omega,To.mk [0,3] rfl rfl (by decide) ?_ ?_⟩
  ·(try(refine xz3 sn zxj QB0 ?_;try exact xtI))
  ·(try(refine xz2 (gd hlt) zab ?_;try exact xtI))
 ·obtain rfl:k=l.length:=by omega
  rw[List.take_length]
  try refine xst ?_
  refine zb9 [0,1] rfl rfl (by decide) ⟨trivial,?_,trivial⟩ trivial ?_
  ·exact xS
  ·exact xS
theorem ygy (w:Wld) (l:List Ord) (a b c d:Nat) (R:List Int) (hR:zbu w.f [⟨a,b⟩] R) (hl:w.f.p.length≤9223372036854775807) (h:zek R w.f ⟨a,b⟩ ⟨c,d⟩≠0):zc6 Tryz.prog 55 [.ptr 0 0 0,zw7 [a,b,c,d]] [za9 w 1,zbc l] (.pan (za5 (zek R w.f ⟨a,b⟩ ⟨c,d⟩)) [za9 w 1,zbc l]):=by
 have P:=zrx w.f ⟨a,b⟩ ⟨c,d⟩ hl R hR
 generalize zek R w.f ⟨a,b⟩ ⟨c,d⟩=e at *
 refine zdw (.pan (za5 e) [za9 w 1,zbc l]) [2] Tryz.func55 rfl rfl mix 58 rfl [.tmp 4] Tryz.results55 (Nat.le_of_ble_eq_true rfl) ?_
 try refine xz2 zas QB4 ?_
 refine caP (P) ?_
 try refine xz2 zas QB4 ?_
 (try(refine⟨by kernel_rfl,?_⟩))
 try refine xz2 zas QB4 ?_
 refine zfn 1 ?_
 try refine xz2 zas QB4 ?_
 refine caN [] (zjh e h) ?_
 try refine xz2 zas QB4 ?_
 refine zfe (zfo [0,1] (ToK.refl _ _) rfl (Nat.le_refl _) (by decide) ⟨?_,?_,trivial⟩)
 ·exact xS
 ·exact xS
theorem ygx (w:Wld) (l:List Ord) (a b c d:Nat) (R:List Int) (hR:zbu w.f [⟨a,b⟩] R) (hl:zbl w.f=0) (h:zek R w.f ⟨a,b⟩ ⟨c,d⟩=0):Spec Tryz.prog 55 [.ptr 0 0 0,zw7 [a,b,c,d]] [za9 w 1,zbc l] (.c (.sl 1 ([zcy (zml R w.f ⟨a,b⟩ ⟨c,d⟩)]++(zmd R w.f ⟨a,b⟩ ⟨c,d⟩).map fun x=>zlo [x.x,x.y]))) [za9 w 1,zbc l]:=by
 obtain⟨e1,e2,e3,_⟩:=za4 hl
 obtain⟨w1,w2,w3⟩:=z29 hR h
 have hpl:w.f.p.length≤9223372036854775807:=by
  have:w.f.w*w.f.h≤40*40:=Int.mul_le_mul (by omega) (by omega) (by omega) (by omega)
  omega
 have P:=zrx w.f ⟨a,b⟩ ⟨c,d⟩ hpl R hR
 rw[h,if_pos rfl]at P
 have w4:∀x∈zmd R w.f ⟨a,b⟩ ⟨c,d⟩,∀n ∈ [x.x,x.y],zdu n:=fun x hx n hn=>by
  have:=inF_iff.1 (w3 x hx)
  simp only[List.mem_cons,List.mem_nil_iff,or_false]at hn
  rcases hn with rfl|rfl<;>exact⟨by omega,by omega⟩
 have T:=yd8 [zml R w.f ⟨a,b⟩ ⟨c,d⟩] (fun n hn=>by simp only[List.mem_singleton]at hn;subst hn;exact⟨by omega,by omega⟩) (by simp)
 simp only[List.map_cons,List.map_nil,zao]at T
 generalize zml R w.f ⟨a,b⟩ ⟨c,d⟩=D at *
 generalize zmd R w.f ⟨a,b⟩ ⟨c,d⟩=V at *
 refine spB Tryz.func55 58 [.tmp 4] Tryz.results55 ?_
 try refine xz2 zas QB4 ?_
 refine caP (P) ?_
 try refine xz2 zas QB4 ?_
 (try(refine⟨by kernel_rfl,?_⟩))
 try refine xz2 zas QB4 ?_
 refine caP (zk2) ?_
 try refine xz2 zas QB4 ?_
 refine caM [110] (T) ?_
 try refine xz2 zas QB4 ?_
 refine zay (fun k:Nat=>⟨[(42,I .i64 k),(41,I .i64 V.length),(40,.c (.sl 2 (V.map zbk))),(8,.own 2),(0,.ptr 0 0 0)],[(0,za9 w 1),(1,zbc l),(2,.row 9 1 ([zcy D]++(V.take k).map fun x=>zlo [x.x,x.y]))],3⟩) (fun k:Nat=>k≤V.length) (fun k:Nat=>V.length-k) (0) (Nat.zero_le _) (To.mk [0,1,111] rfl rfl (by decide) ?_ ?_) ?_
 ·exact xS
 ·exact xS
 rintro k hk
 try refine xz2 zas QB4 ?_
 refine cI (fun h1=>?_) fun h1=>?_
 ·have hlt:k<V.length:=by omega
  have sn:=zak V k hlt
  have tl:(V.take k).length=k:=by rw[List.length_take];omega
  have ok:=w4 _ (zax V k hlt)
  try refine xz4 zas (gd hlt) zag QB4 ?_
  refine zcn [4] (Spec.hand 0 (zno [(V.getD k default).x,(V.getD k default).y] ok (by simp)) (Nat.zero_le _) rfl (by exact WkL.refl _) rfl) (WkL.refl _) rfl (by decide) (by simp[za6]) ?_
  try refine xz4 zas (gd hlt) zag QB4 ?_
  refine caP (z6o [(V.getD k default).x,(V.getD k default).y] ok (by simp)) ?_
  try refine xz4 zas (gd hlt) zag QB4 ?_
  refine⟨k+1,by omega,by omega,To.mk [0,1,6] rfl rfl (by decide) ?_ ?_⟩
  ·(try(refine xz3 sn z6n QB7 ?_;try exact xtI))
  ·(try(refine xz4 zas (gd hlt) zag QB4 ?_;try exact xtI))
 ·obtain rfl:k=V.length:=by omega
  rw[List.take_length]
  try refine xz2 zas QB4 ?_
  refine zb9 [0,1] rfl rfl (by decide) ⟨?_,?_,trivial⟩ trivial ?_
  ·exact xS
  ·exact xS
  ·exact xS
theorem yjf (w:Wld) (l l':List Ord) (s0 s1 s2:ByteArray) (h:zcm 3 [s0,s1,s2]) (hW:Spec Tryz.prog 86 [.ptr 0 0 0,zmu ⟨(za8 s0:Nat),1,(za8 s1:Nat),⟨0,0⟩,(za8 s2:Nat)⟩] [za9 w 1,zbc l] (.c (.sl 1 [])) [za9 w 2,.dead,zbc l']):Spec Tryz.prog 51 [.ptr 0 0 0,S ⟨#[104,105,116]⟩,.ptr 2 0 0] [za9 w 1,zbc l,zi7 [s0,s1,s2]] (.c (.sl 1 [])) [za9 w 3,.dead,.dead,zbc l']:=by
 have N:=zbn 3 [s0,s1,s2] (by decide) h
 simp only[List.map_cons,List.map_nil,nmP]at N
 refine spB Tryz.func51 72 [.tmp 6] Tryz.results51 ?_
 try refine xst ?_
 refine cI (fun h1=>?_) fun h1=>?_
 ·try refine xst ?_
  refine caM [2] (N) ?_
  try refine xst ?_
  (try(refine⟨by kernel_rfl,?_⟩))
  try refine xst ?_
  refine caM [0,1] (hW) ?_
  try refine xst ?_
  refine zb9 [0,1,2,48] rfl rfl (by decide) ⟨?_,trivial,trivial,?_,trivial⟩ trivial ?_
  ·exact xS
  ·exact xS
  ·exact xS
 ·first|(exact absurd h1 (by decide))|(simp at h1)
theorem z6x (w:Wld) (l:List Ord) (s0 s1 s2:ByteArray) (h:zcm 3 [s0,s1,s2]) (e:Int) (hW:zc6 Tryz.prog 86 [.ptr 0 0 0,zmu ⟨(za8 s0:Nat),1,(za8 s1:Nat),⟨0,0⟩,(za8 s2:Nat)⟩] [za9 w 1,zbc l] (.pan (za5 e) [za9 w 1,zbc l])):zc6 Tryz.prog 51 [.ptr 0 0 0,S ⟨#[104,105,116]⟩,.ptr 2 0 0] [za9 w 1,zbc l,zi7 [s0,s1,s2]] (.pan (za5 e) [za9 w 1,zbc l,.dead]):=by
 have N:=zbn 3 [s0,s1,s2] (by decide) h
 simp only[List.map_cons,List.map_nil,nmP]at N
 refine zdw (.pan (za5 e) [za9 w 1,zbc l,.dead]) [17] Tryz.func51 rfl rfl mix 72 rfl [.tmp 6] Tryz.results51 (Nat.le_of_ble_eq_true rfl) ?_
 try refine xst ?_
 refine cI (fun h1=>?_) fun h1=>?_
 ·try refine xst ?_
  refine caM [2] (N) ?_
  try refine xst ?_
  (try(refine⟨by kernel_rfl,?_⟩))
  try refine xst ?_
  refine zfn 2 ?_
  try refine xst ?_
  refine caN [0,1] (hW) ?_
  try refine xst ?_
  refine zfe (zfo [0,1,2] (ToK.refl _ _) rfl (Nat.le_refl _) (by decide) ⟨?_,?_,trivial,trivial⟩)
  ·exact xS
  ·exact xS
 ·first|(exact absurd h1 (by decide))|(simp at h1)
theorem ygc (w:Wld) (l:List Ord) (ws:List ByteArray) (hl:ws.length≤1048576) (hs:∀s∈ws,s.size≤1048576) (h:¬zcm 3 ws):zc6 Tryz.prog 51 [.ptr 0 0 0,S ⟨#[104,105,116]⟩,.ptr 2 0 0] [za9 w 1,zbc l,zi7 ws] (.pan (za5 10) [za9 w 1,zbc l,.dead]):=by
 have N:=zb6 3 ws (by decide) hl hs h
 refine zdw (.pan (za5 10) [za9 w 1,zbc l,.dead]) [6] Tryz.func51 rfl rfl mix 72 rfl [.tmp 6] Tryz.results51 (Nat.le_of_ble_eq_true rfl) ?_
 try refine xst ?_
 refine cI (fun h1=>?_) fun h1=>?_
 ·try refine xst ?_
  refine zfn 1 ?_
  try refine xst ?_
  refine caN [2] (N) ?_
  try refine xst ?_
  refine zfe (zfo [0,1,2] (ToK.refl _ _) rfl (Nat.le_refl _) (by decide) ⟨?_,?_,trivial,trivial⟩)
  ·exact xS
  ·exact xS
 ·first|(exact absurd h1 (by decide))|(simp at h1)
theorem yni (w:Wld) (l l':List Ord) (s0 s1 s2 s3:ByteArray) (h:zcm 4 [s0,s1,s2,s3]) (hW:Spec Tryz.prog 86 [.ptr 0 0 0,zmu ⟨(za8 s0:Nat),2,(za8 s1:Nat),⟨(za8 s2:Nat),(za8 s3:Nat)⟩,0⟩] [za9 w 1,zbc l] (.c (.sl 1 [])) [za9 w 2,.dead,zbc l']):Spec Tryz.prog 51 [.ptr 0 0 0,S ⟨#[103,111]⟩,.ptr 2 0 0] [za9 w 1,zbc l,zi7 [s0,s1,s2,s3]] (.c (.sl 1 [])) [za9 w 3,.dead,.dead,zbc l']:=by
 have N:=zbn 4 [s0,s1,s2,s3] (by decide) h
 simp only[List.map_cons,List.map_nil,nmP]at N
 refine spB Tryz.func51 72 [.tmp 6] Tryz.results51 ?_
 try refine xst ?_
 refine cI (fun h1=>?_) fun h1=>?_
 ·first|(exact absurd h1 (by decide))|(simp at h1)
 ·try refine xst ?_
  refine cI (fun h2=>?_) fun h2=>?_
  ·try refine xst ?_
   refine cI (fun h3=>?_) fun h3=>?_
   ·try refine xst ?_
    refine caM [2] (N) ?_
    try refine xst ?_
    (try(refine⟨by kernel_rfl,?_⟩))
    try refine xst ?_
    refine cI (fun h4=>?_) fun h4=>?_
    ·first|(exact absurd h4 (by decide))|(simp at h4)
    ·try refine xst ?_
     refine caM [0,1] (hW) ?_
     try refine xst ?_
     refine zb9 [0,1,2,64] rfl rfl (by decide) ⟨?_,trivial,trivial,?_,trivial⟩ trivial ?_
     ·exact xS
     ·exact xS
     ·exact xS
   ·first|(exact absurd h3 (by decide))|(simp at h3)
  ·first|(exact absurd h2 (by decide))|(simp at h2)
theorem ydb (w:Wld) (l:List Ord) (s0 s1 s2 s3:ByteArray) (h:zcm 4 [s0,s1,s2,s3]) (e:Int) (hW:zc6 Tryz.prog 86 [.ptr 0 0 0,zmu ⟨(za8 s0:Nat),2,(za8 s1:Nat),⟨(za8 s2:Nat),(za8 s3:Nat)⟩,0⟩] [za9 w 1,zbc l] (.pan (za5 e) [za9 w 1,zbc l])):zc6 Tryz.prog 51 [.ptr 0 0 0,S ⟨#[103,111]⟩,.ptr 2 0 0] [za9 w 1,zbc l,zi7 [s0,s1,s2,s3]] (.pan (za5 e) [za9 w 1,zbc l,.dead]):=by
 have N:=zbn 4 [s0,s1,s2,s3] (by decide) h
 simp only[List.map_cons,List.map_nil,nmP]at N
 refine zdw (.pan (za5 e) [za9 w 1,zbc l,.dead]) [17] Tryz.func51 rfl rfl mix 72 rfl [.tmp 6] Tryz.results51 (Nat.le_of_ble_eq_true rfl) ?_
 try refine xst ?_
 refine cI (fun h1=>?_) fun h1=>?_
 ·first|(exact absurd h1 (by decide))|(simp at h1)
 ·try refine xst ?_
  refine cI (fun h2=>?_) fun h2=>?_
  ·try refine xst ?_
   refine cI (fun h3=>?_) fun h3=>?_
   ·try refine xst ?_
    refine caM [2] (N) ?_
    try refine xst ?_
    (try(refine⟨by kernel_rfl,?_⟩))
    try refine xst ?_
    refine cI (fun h4=>?_) fun h4=>?_
    ·first|(exact absurd h4 (by decide))|(simp at h4)
    ·try refine xst ?_
     refine zfn 2 ?_
     try refine xst ?_
     refine caN [0,1] (hW) ?_
     try refine xst ?_
     refine zfe (zfo [0,1,2] (ToK.refl _ _) rfl (Nat.le_refl _) (by decide) ⟨?_,?_,trivial,trivial⟩)
     ·exact xS
     ·exact xS
   ·first|(exact absurd h3 (by decide))|(simp at h3)
  ·first|(exact absurd h2 (by decide))|(simp at h2)
theorem yjo (w:Wld) (l:List Ord) (ws:List ByteArray) (hl:ws.length≤1048576) (hs:∀s∈ws,s.size≤1048576) (h:¬zcm 4 ws):zc6 Tryz.prog 51 [.ptr 0 0 0,S ⟨#[103,111]⟩,.ptr 2 0 0] [za9 w 1,zbc l,zi7 ws] (.pan (za5 10) [za9 w 1,zbc l,.dead]):=by
 have N:=zb6 4 ws (by decide) hl hs h
 refine zdw (.pan (za5 10) [za9 w 1,zbc l,.dead]) [10] Tryz.func51 rfl rfl mix 72 rfl [.tmp 6] Tryz.results51 (Nat.le_of_ble_eq_true rfl) ?_
 try refine xst ?_
 refine cI (fun h1=>?_) fun h1=>?_
 ·first|(exact absurd h1 (by decide))|(simp at h1)
 ·try refine xst ?_
  refine cI (fun h2=>?_) fun h2=>?_
  ·try refine xst ?_
   refine cI (fun h3=>?_) fun h3=>?_
   ·try refine xst ?_
    refine zfn 1 ?_
    try refine xst ?_
    refine caN [2] (N) ?_
    try refine xst ?_
    refine zfe (zfo [0,1,2] (ToK.refl _ _) rfl (Nat.le_refl _) (by decide) ⟨?_,?_,trivial,trivial⟩)
    ·exact xS
    ·exact xS
   ·first|(exact absurd h3 (by decide))|(simp at h3)
  ·first|(exact absurd h2 (by decide))|(simp at h2)
theorem yfj (w:Wld) (l l':List Ord) (s0 s1 s2 s3:ByteArray) (h:zcm 4 [s0,s1,s2,s3]) (hW:Spec Tryz.prog 86 [.ptr 0 0 0,zmu ⟨(za8 s0:Nat),3,(za8 s1:Nat),⟨(za8 s2:Nat),(za8 s3:Nat)⟩,0⟩] [za9 w 1,zbc l] (.c (.sl 1 [])) [za9 w 2,.dead,zbc l']):Spec Tryz.prog 51 [.ptr 0 0 0,S ⟨#[109,105,110,101]⟩,.ptr 2 0 0] [za9 w 1,zbc l,zi7 [s0,s1,s2,s3]] (.c (.sl 1 [])) [za9 w 3,.dead,.dead,zbc l']:=by
 have N:=zbn 4 [s0,s1,s2,s3] (by decide) h
 simp only[List.map_cons,List.map_nil,nmP]at N
 refine spB Tryz.func51 72 [.tmp 6] Tryz.results51 ?_
 try refine xst ?_
 refine cI (fun h1=>?_) fun h1=>?_
 ·first|(exact absurd h1 (by decide))|(simp at h1)
 ·try refine xst ?_
  refine cI (fun h2=>?_) fun h2=>?_
  ·first|(exact absurd h2 (by decide))|(simp at h2)
  ·try refine xst ?_
   refine cI (fun h3=>?_) fun h3=>?_
   ·try refine xst ?_
    refine caM [2] (N) ?_
    try refine xst ?_
    (try(refine⟨by kernel_rfl,?_⟩))
    try refine xst ?_
    refine cI (fun h4=>?_) fun h4=>?_
    ·try refine xst ?_
     refine caM [0,1] (hW) ?_
     try refine xst ?_
     refine zb9 [0,1,2,64] rfl rfl (by decide) ⟨?_,trivial,trivial,?_,trivial⟩ trivial ?_
     ·exact xS
     ·exact xS
     ·exact xS
    ·first|(exact absurd h4 (by decide))|(simp at h4)
   ·first|(exact absurd h3 (by decide))|(simp at h3)
theorem zzq (w:Wld) (l:List Ord) (s0 s1 s2 s3:ByteArray) (h:zcm 4 [s0,s1,s2,s3]) (e:Int) (hW:zc6 Tryz.prog 86 [.ptr 0 0 0,zmu ⟨(za8 s0:Nat),3,(za8 s1:Nat),⟨(za8 s2:Nat),(za8 s3:Nat)⟩,0⟩] [za9 w 1,zbc l] (.pan (za5 e) [za9 w 1,zbc l])):zc6 Tryz.prog 51 [.ptr 0 0 0,S ⟨#[109,105,110,101]⟩,.ptr 2 0 0] [za9 w 1,zbc l,zi7 [s0,s1,s2,s3]] (.pan (za5 e) [za9 w 1,zbc l,.dead]):=by
 have N:=zbn 4 [s0,s1,s2,s3] (by decide) h
 simp only[List.map_cons,List.map_nil,nmP]at N
 refine zdw (.pan (za5 e) [za9 w 1,zbc l,.dead]) [17] Tryz.func51 rfl rfl mix 72 rfl [.tmp 6] Tryz.results51 (Nat.le_of_ble_eq_true rfl) ?_
 try refine xst ?_
 refine cI (fun h1=>?_) fun h1=>?_
 ·first|(exact absurd h1 (by decide))|(simp at h1)
 ·try refine xst ?_
  refine cI (fun h2=>?_) fun h2=>?_
  ·first|(exact absurd h2 (by decide))|(simp at h2)
  ·try refine xst ?_
   refine cI (fun h3=>?_) fun h3=>?_
   ·try refine xst ?_
    refine caM [2] (N) ?_
    try refine xst ?_
    (try(refine⟨by kernel_rfl,?_⟩))
    try refine xst ?_
    refine cI (fun h4=>?_) fun h4=>?_
    ·try refine xst ?_
     refine zfn 2 ?_
     try refine xst ?_
     refine caN [0,1] (hW) ?_
     try refine xst ?_
     refine zfe (zfo [0,1,2] (ToK.refl _ _) rfl (Nat.le_refl _) (by decide) ⟨?_,?_,trivial,trivial⟩)
     ·exact xS
     ·exact xS
    ·first|(exact absurd h4 (by decide))|(simp at h4)
   ·first|(exact absurd h3 (by decide))|(simp at h3)
theorem yau (w:Wld) (l:List Ord) (ws:List ByteArray) (hl:ws.length≤1048576) (hs:∀s∈ws,s.size≤1048576) (h:¬zcm 4 ws):zc6 Tryz.prog 51 [.ptr 0 0 0,S ⟨#[109,105,110,101]⟩,.ptr 2 0 0] [za9 w 1,zbc l,zi7 ws] (.pan (za5 10) [za9 w 1,zbc l,.dead]):=by
 have N:=zb6 4 ws (by decide) hl hs h
 refine zdw (.pan (za5 10) [za9 w 1,zbc l,.dead]) [10] Tryz.func51 rfl rfl mix 72 rfl [.tmp 6] Tryz.results51 (Nat.le_of_ble_eq_true rfl) ?_
 try refine xst ?_
 refine cI (fun h1=>?_) fun h1=>?_
 ·first|(exact absurd h1 (by decide))|(simp at h1)
 ·try refine xst ?_
  refine cI (fun h2=>?_) fun h2=>?_
  ·first|(exact absurd h2 (by decide))|(simp at h2)
  ·try refine xst ?_
   refine cI (fun h3=>?_) fun h3=>?_
   ·try refine xst ?_
    refine zfn 1 ?_
    try refine xst ?_
    refine caN [2] (N) ?_
    try refine xst ?_
    refine zfe (zfo [0,1,2] (ToK.refl _ _) rfl (Nat.le_refl _) (by decide) ⟨?_,?_,trivial,trivial⟩)
    ·exact xS
    ·exact xS
   ·first|(exact absurd h3 (by decide))|(simp at h3)
theorem ygz (w:Wld) (l l':List Ord) (s0 s1:ByteArray) (h:zcm 2 [s0,s1]) (hW:Spec Tryz.prog 86 [.ptr 0 0 0,zmu ⟨(za8 s0:Nat),4,(za8 s1:Nat),⟨0,0⟩,0⟩] [za9 w 1,zbc l] (.c (.sl 1 [])) [za9 w 2,.dead,zbc l']):Spec Tryz.prog 51 [.ptr 0 0 0,S ⟨#[100,114,111,112]⟩,.ptr 2 0 0] [za9 w 1,zbc l,zi7 [s0,s1]] (.c (.sl 1 [])) [za9 w 3,.dead,.dead,zbc l']:=by
 have N:=zbn 2 [s0,s1] (by decide) h
 simp only[List.map_cons,List.map_nil,nmP]at N
 refine spB Tryz.func51 72 [.tmp 6] Tryz.results51 ?_
 try refine xst ?_
 refine cI (fun h1=>?_) fun h1=>?_
 ·first|(exact absurd h1 (by decide))|(simp at h1)
 ·try refine xst ?_
  refine cI (fun h2=>?_) fun h2=>?_
  ·first|(exact absurd h2 (by decide))|(simp at h2)
  ·try refine xst ?_
   refine cI (fun h3=>?_) fun h3=>?_
   ·first|(exact absurd h3 (by decide))|(simp at h3)
   ·try refine xst ?_
    refine cI (fun h4=>?_) fun h4=>?_
    ·try refine xst ?_
     refine caM [2] (N) ?_
     try refine xst ?_
     (try(refine⟨by kernel_rfl,?_⟩))
     try refine xst ?_
     refine caM [0,1] (hW) ?_
     try refine xst ?_
     refine zb9 [0,1,2,36] rfl rfl (by decide) ⟨?_,trivial,trivial,?_,trivial⟩ trivial ?_
     ·exact xS
     ·exact xS
     ·exact xS
    ·first|(exact absurd h4 (by decide))|(simp at h4)
theorem z0p (w:Wld) (l:List Ord) (s0 s1:ByteArray) (h:zcm 2 [s0,s1]) (e:Int) (hW:zc6 Tryz.prog 86 [.ptr 0 0 0,zmu ⟨(za8 s0:Nat),4,(za8 s1:Nat),⟨0,0⟩,0⟩] [za9 w 1,zbc l] (.pan (za5 e) [za9 w 1,zbc l])):zc6 Tryz.prog 51 [.ptr 0 0 0,S ⟨#[100,114,111,112]⟩,.ptr 2 0 0] [za9 w 1,zbc l,zi7 [s0,s1]] (.pan (za5 e) [za9 w 1,zbc l,.dead]):=by
 have N:=zbn 2 [s0,s1] (by decide) h
 simp only[List.map_cons,List.map_nil,nmP]at N
 refine zdw (.pan (za5 e) [za9 w 1,zbc l,.dead]) [17] Tryz.func51 rfl rfl mix 72 rfl [.tmp 6] Tryz.results51 (Nat.le_of_ble_eq_true rfl) ?_
 try refine xst ?_
 refine cI (fun h1=>?_) fun h1=>?_
 ·first|(exact absurd h1 (by decide))|(simp at h1)
 ·try refine xst ?_
  refine cI (fun h2=>?_) fun h2=>?_
  ·first|(exact absurd h2 (by decide))|(simp at h2)
  ·try refine xst ?_
   refine cI (fun h3=>?_) fun h3=>?_
   ·first|(exact absurd h3 (by decide))|(simp at h3)
   ·try refine xst ?_
    refine cI (fun h4=>?_) fun h4=>?_
    ·try refine xst ?_
     refine caM [2] (N) ?_
     try refine xst ?_
     (try(refine⟨by kernel_rfl,?_⟩))
     try refine xst ?_
     refine zfn 2 ?_
     try refine xst ?_
     refine caN [0,1] (hW) ?_
     try refine xst ?_
     refine zfe (zfo [0,1,2] (ToK.refl _ _) rfl (Nat.le_refl _) (by decide) ⟨?_,?_,trivial,trivial⟩)
     ·exact xS
     ·exact xS
    ·first|(exact absurd h4 (by decide))|(simp at h4)
theorem ybv (w:Wld) (l:List Ord) (ws:List ByteArray) (hl:ws.length≤1048576) (hs:∀s∈ws,s.size≤1048576) (h:¬zcm 2 ws):zc6 Tryz.prog 51 [.ptr 0 0 0,S ⟨#[100,114,111,112]⟩,.ptr 2 0 0] [za9 w 1,zbc l,zi7 ws] (.pan (za5 10) [za9 w 1,zbc l,.dead]):=by
 have N:=zb6 2 ws (by decide) hl hs h
 refine zdw (.pan (za5 10) [za9 w 1,zbc l,.dead]) [15] Tryz.func51 rfl rfl mix 72 rfl [.tmp 6] Tryz.results51 (Nat.le_of_ble_eq_true rfl) ?_
 try refine xst ?_
 refine cI (fun h1=>?_) fun h1=>?_
 ·first|(exact absurd h1 (by decide))|(simp at h1)
 ·try refine xst ?_
  refine cI (fun h2=>?_) fun h2=>?_
  ·first|(exact absurd h2 (by decide))|(simp at h2)
  ·try refine xst ?_
   refine cI (fun h3=>?_) fun h3=>?_
   ·first|(exact absurd h3 (by decide))|(simp at h3)
   ·try refine xst ?_
    refine cI (fun h4=>?_) fun h4=>?_
    ·try refine xst ?_
     refine zfn 1 ?_
     try refine xst ?_
     refine caN [2] (N) ?_
     try refine xst ?_
     refine zfe (zfo [0,1,2] (ToK.refl _ _) rfl (Nat.le_refl _) (by decide) ⟨?_,?_,trivial,trivial⟩)
     ·exact xS
     ·exact xS
    ·first|(exact absurd h4 (by decide))|(simp at h4)
theorem yfk (w:Wld) (l l':List Ord) (s0 s1:ByteArray) (h:zcm 2 [s0,s1]) (hW:Spec Tryz.prog 86 [.ptr 0 0 0,zmu ⟨(za8 s0:Nat),5,0,⟨0,0⟩,(za8 s1:Nat)⟩] [za9 w 1,zbc l] (.c (.sl 1 [])) [za9 w 2,.dead,zbc l']):Spec Tryz.prog 51 [.ptr 0 0 0,S ⟨#[109,97,107,101]⟩,.ptr 2 0 0] [za9 w 1,zbc l,zi7 [s0,s1]] (.c (.sl 1 [])) [za9 w 3,.dead,.dead,zbc l']:=by
 have N:=zbn 2 [s0,s1] (by decide) h
 simp only[List.map_cons,List.map_nil,nmP]at N
 refine spB Tryz.func51 72 [.tmp 6] Tryz.results51 ?_
 try refine xst ?_
 refine cI (fun h1=>?_) fun h1=>?_
 ·first|(exact absurd h1 (by decide))|(simp at h1)
 ·try refine xst ?_
  refine cI (fun h2=>?_) fun h2=>?_
  ·first|(exact absurd h2 (by decide))|(simp at h2)
  ·try refine xst ?_
   refine cI (fun h3=>?_) fun h3=>?_
   ·first|(exact absurd h3 (by decide))|(simp at h3)
   ·try refine xst ?_
    refine cI (fun h4=>?_) fun h4=>?_
    ·first|(exact absurd h4 (by decide))|(simp at h4)
    ·try refine xst ?_
     refine caM [2] (N) ?_
     try refine xst ?_
     (try(refine⟨by kernel_rfl,?_⟩))
     try refine xst ?_
     refine caM [0,1] (hW) ?_
     try refine xst ?_
     refine zb9 [0,1,2,36] rfl rfl (by decide) ⟨?_,trivial,trivial,?_,trivial⟩ trivial ?_
     ·exact xS
     ·exact xS
     ·exact xS
theorem zzt (w:Wld) (l:List Ord) (s0 s1:ByteArray) (h:zcm 2 [s0,s1]) (e:Int) (hW:zc6 Tryz.prog 86 [.ptr 0 0 0,zmu ⟨(za8 s0:Nat),5,0,⟨0,0⟩,(za8 s1:Nat)⟩] [za9 w 1,zbc l] (.pan (za5 e) [za9 w 1,zbc l])):zc6 Tryz.prog 51 [.ptr 0 0 0,S ⟨#[109,97,107,101]⟩,.ptr 2 0 0] [za9 w 1,zbc l,zi7 [s0,s1]] (.pan (za5 e) [za9 w 1,zbc l,.dead]):=by
 have N:=zbn 2 [s0,s1] (by decide) h
 simp only[List.map_cons,List.map_nil,nmP]at N
 refine zdw (.pan (za5 e) [za9 w 1,zbc l,.dead]) [17] Tryz.func51 rfl rfl mix 72 rfl [.tmp 6] Tryz.results51 (Nat.le_of_ble_eq_true rfl) ?_
 try refine xst ?_
 refine cI (fun h1=>?_) fun h1=>?_
 ·first|(exact absurd h1 (by decide))|(simp at h1)
 ·try refine xst ?_
  refine cI (fun h2=>?_) fun h2=>?_
  ·first|(exact absurd h2 (by decide))|(simp at h2)
  ·try refine xst ?_
   refine cI (fun h3=>?_) fun h3=>?_
   ·first|(exact absurd h3 (by decide))|(simp at h3)
   ·try refine xst ?_
    refine cI (fun h4=>?_) fun h4=>?_
    ·first|(exact absurd h4 (by decide))|(simp at h4)
    ·try refine xst ?_
     refine caM [2] (N) ?_
     try refine xst ?_
     (try(refine⟨by kernel_rfl,?_⟩))
     try refine xst ?_
     refine zfn 2 ?_
     try refine xst ?_
     refine caN [0,1] (hW) ?_
     try refine xst ?_
     refine zfe (zfo [0,1,2] (ToK.refl _ _) rfl (Nat.le_refl _) (by decide) ⟨?_,?_,trivial,trivial⟩)
     ·exact xS
     ·exact xS
theorem yaz (w:Wld) (l:List Ord) (ws:List ByteArray) (hl:ws.length≤1048576) (hs:∀s∈ws,s.size≤1048576) (h:¬zcm 2 ws):zc6 Tryz.prog 51 [.ptr 0 0 0,S ⟨#[109,97,107,101]⟩,.ptr 2 0 0] [za9 w 1,zbc l,zi7 ws] (.pan (za5 10) [za9 w 1,zbc l,.dead]):=by
 have N:=zb6 2 ws (by decide) hl hs h
 refine zdw (.pan (za5 10) [za9 w 1,zbc l,.dead]) [3] Tryz.func51 rfl rfl mix 72 rfl [.tmp 6] Tryz.results51 (Nat.le_of_ble_eq_true rfl) ?_
 try refine xst ?_
 refine cI (fun h1=>?_) fun h1=>?_
 ·first|(exact absurd h1 (by decide))|(simp at h1)
 ·try refine xst ?_
  refine cI (fun h2=>?_) fun h2=>?_
  ·first|(exact absurd h2 (by decide))|(simp at h2)
  ·try refine xst ?_
   refine cI (fun h3=>?_) fun h3=>?_
   ·first|(exact absurd h3 (by decide))|(simp at h3)
   ·try refine xst ?_
    refine cI (fun h4=>?_) fun h4=>?_
    ·first|(exact absurd h4 (by decide))|(simp at h4)
    ·try refine xst ?_
     refine zfn 1 ?_
     try refine xst ?_
     refine caN [2] (N) ?_
     try refine xst ?_
     refine zfe (zfo [0,1,2] (ToK.refl _ _) rfl (Nat.le_refl _) (by decide) ⟨?_,?_,trivial,trivial⟩)
     ·exact xS
     ·exact xS
abbrev ykx:AV := .agg [I .i64 0,I .i64 0,.c (.v (.slice none 0 0))]
def z85 (p:Int):UInt8:=if p=0 then 46 else if p=1 then 35 else if p=2 then 116 else 111
end Go.Proofs.YtgggemkjaccbhaaGreatDoor
